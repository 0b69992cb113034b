/-
  The walks of page.Right and of the joiner's methods.
-/
import Derived.Test.YtmaaljfcnnlnpaaFragLaw1
namespace Go.Proofs.Ytmaaljfcnnlnpaa
open Go.RowKit

/-- A joiner that lies in memory. -/
structure JnAt (w : World) (b o : Nat) (j : Jn) : Prop where
  c0 : w.cell? ⟨b, o, none⟩ = some (.bool j.be)
  c1 : w.cell? ⟨b, o + 1, none⟩ = some (.int .u32 (j.ep : Int))
  c2 : w.cell? ⟨b, o + 2, none⟩ = some (.string ⟨j.rc.toArray⟩)

theorem JnAt.below {B : Nat} {W W' : World} {b o : Nat} {j : Jn} (h : JnAt W b o j) (hb : Below B W W') (hlt : b < B) : JnAt W' b o j :=
  ⟨(hb.cell (p := ⟨b, o, none⟩) hlt).trans h.c0, (hb.cell (p := ⟨b, o + 1, none⟩) hlt).trans h.c1, (hb.cell (p := ⟨b, o + 2, none⟩) hlt).trans h.c2⟩

set_option maxRecDepth 100000 in
set_option maxHeartbeats 2000000 in
theorem right_any (p : Pg) (hl : p.da.length ≤ maxLen) (w : World) :
    Calls Try.prog 49 #[.agg #[.int .u32 p.ep, .int .u32 p.nu, .int .i64 p.ki, .bool p.fi, .bool p.la, .string ⟨p.da.toArray⟩]] w fun r w' => r = .returned (.bool p.right) ∧ Below w.heap.size w w' := by
  obtain ⟨ep, nu, ki, fi, la, da⟩ := p
  have HR := Lib.hid (show Pg.right ⟨ep, nu, ki, fi, la, da⟩ = ((ki == 2 || (ki == 1 && !fi && !la)) && decide (1 ≤ da.length) && decide (da.length ≤ 49)) from rfl)
  have hsz : (ByteArray.mk da.toArray).size = da.length := by simp [ByteArray.size]
  have hb : ∀ o, Below w.heap.size w (w.alloc o) := fun o => (Below.refl _ _).alloc (Nat.le_refl _) _
  have HB := Lib.hid hb
  clear hb
  dsimp only at hl ⊢
  unfold maxLen at hl
  generalize Pg.right ⟨ep, nu, ki, fi, la, da⟩ = r at *
  by_cases hd : 1 ≤ da.length
  · by_cases hd2 : da.length ≤ 49
    · by_cases h2 : ki = 2
      · subst h2
        go_enter Try.func49, Try.ntmps49
        go_wp2_with fail
        go_ret
        exact ⟨by rw [HR.out]; simp [hd, hd2]; try omega, HB.out _⟩
      · by_cases h1 : ki = 1
        · subst h1
          cases fi
          · cases la
            · go_enter Try.func49, Try.ntmps49
              go_wp2_with fail
              go_ret
              exact ⟨by rw [HR.out]; simp [hd, hd2]; try omega, HB.out _⟩
            · go_enter Try.func49, Try.ntmps49
              go_wp2_with fail
              go_ret
              exact ⟨by rw [HR.out]; simp [hd, hd2]; try omega, HB.out _⟩
          · go_enter Try.func49, Try.ntmps49
            go_wp2_with fail
            go_ret
            exact ⟨by rw [HR.out]; simp [hd, hd2]; try omega, HB.out _⟩
        · go_enter Try.func49, Try.ntmps49
          go_wp2_with fail
          go_ret
          exact ⟨by rw [HR.out]; simp [hd, hd2]; try omega, HB.out _⟩
    · by_cases h2 : ki = 2
      · subst h2
        go_enter Try.func49, Try.ntmps49
        go_wp2_with fail
        go_ret
        exact ⟨by rw [HR.out]; simp [hd2]; try omega, HB.out _⟩
      · by_cases h1 : ki = 1
        · subst h1
          cases fi
          · cases la
            · go_enter Try.func49, Try.ntmps49
              go_wp2_with fail
              go_ret
              exact ⟨by rw [HR.out]; simp [hd2]; try omega, HB.out _⟩
            · go_enter Try.func49, Try.ntmps49
              go_wp2_with fail
              go_ret
              exact ⟨by rw [HR.out]; simp [hd, hd2]; try omega, HB.out _⟩
          · go_enter Try.func49, Try.ntmps49
            go_wp2_with fail
            go_ret
            exact ⟨by rw [HR.out]; simp [hd, hd2]; try omega, HB.out _⟩
        · go_enter Try.func49, Try.ntmps49
          go_wp2_with fail
          go_ret
          exact ⟨by rw [HR.out]; simp [hd, hd2]; try omega, HB.out _⟩
  · have hd0 : da = [] := List.eq_nil_of_length_eq_zero (by omega)
    subst hd0
    by_cases h2 : ki = 2
    · subst h2
      go_enter Try.func49, Try.ntmps49
      go_wp2_with fail
      go_ret
      exact ⟨by rw [HR.out]; simp, HB.out _⟩
    · by_cases h1 : ki = 1
      · subst h1
        cases fi
        · cases la
          · go_enter Try.func49, Try.ntmps49
            go_wp2_with fail
            go_ret
            exact ⟨by rw [HR.out]; simp, HB.out _⟩
          · go_enter Try.func49, Try.ntmps49
            go_wp2_with fail
            go_ret
            exact ⟨by rw [HR.out]; simp, HB.out _⟩
        · go_enter Try.func49, Try.ntmps49
          go_wp2_with fail
          go_ret
          exact ⟨by rw [HR.out]; simp, HB.out _⟩
      · go_enter Try.func49, Try.ntmps49
        go_wp2_with fail
        go_ret
        exact ⟨by rw [HR.out]; simp, HB.out _⟩
end Go.Proofs.Ytmaaljfcnnlnpaa

namespace Go.Proofs.Ytmaaljfcnnlnpaa
open Go.RowKit

theorem _root_.Go.RowKit.Below.drewN {B : Nat} {a w : World} (h : Below B a w) (n : Nat) : Below B a (w.drewN n) := ⟨h.os, h.tape, h.output, h.size, h.block⟩

theorem JnAt.alloc {W : World} {b o : Nat} {j : Jn} (h : JnAt W b o j) (hlt : b < W.heap.size) (x : Obj) : JnAt (W.alloc x) b o j :=
  h.below ((Below.refl _ _).alloc (Nat.le_refl _) x) hlt

set_option maxRecDepth 100000 in
set_option maxHeartbeats 2000000 in
theorem begun_any (j : Jn) (b o : Nat) (w : World) (hj : JnAt w b o j) :
    Calls Try.prog 50 #[.pointer (some ⟨b, o, none⟩)] w fun r w' => r = .returned (.bool j.be) ∧ w = w' := by
  obtain ⟨k0, k1, k2⟩ := hj
  go_enter Try.func50, Try.ntmps50
  go_wp2_with fail
  go_ret
  exact ⟨rfl, rfl⟩

set_option maxRecDepth 100000 in
set_option maxHeartbeats 2000000 in
theorem fits_any (j : Jn) (p : Pg) (b o : Nat) (w : World) (hj : JnAt w b o j) (hb : b < w.heap.size) (h1 : j.rc.length ≤ 4096) (h2 : p.da.length ≤ 49) :
    Calls Try.prog 86 #[.pointer (some ⟨b, o, none⟩), .agg #[.int .u32 p.ep, .int .u32 p.nu, .int .i64 p.ki, .bool p.fi, .bool p.la, .string ⟨p.da.toArray⟩]] w fun r w' => r = .returned (.bool (j.fits p)) ∧ Below w.heap.size w w' := by
  obtain ⟨ep, nu, ki, fi, la, da⟩ := p
  obtain ⟨be, je, rc⟩ := j
  have HR := Lib.hid (show Jn.fits ⟨be, je, rc⟩ ⟨ep, nu, ki, fi, la, da⟩ = ((fi != be) && (fi || ep == je) && decide (rc.length + da.length ≤ 4096)) from rfl)
  generalize Jn.fits ⟨be, je, rc⟩ ⟨ep, nu, ki, fi, la, da⟩ = r at *
  have hsz : (ByteArray.mk da.toArray).size = da.length := by simp [ByteArray.size]
  have hsr : (ByteArray.mk rc.toArray).size = rc.length := by simp [ByteArray.size]
  have HB := Lib.hid (show ∀ x n, Below w.heap.size w ((w.alloc x).drewN n) from fun x n => ((Below.refl w.heap.size w).alloc (Nat.le_refl _) x).drewN n)
  have k0 : ∀ x, (w.alloc x).cell? ⟨b, o, none⟩ = some (.bool be) := fun x => (hj.alloc hb x).c0
  have k1 : ∀ x, (w.alloc x).cell? ⟨b, o + 1, none⟩ = some (.int .u32 (je : Int)) := fun x => (hj.alloc hb x).c1
  have k2 : ∀ x, (w.alloc x).cell? ⟨b, o + 2, none⟩ = some (.string ⟨rc.toArray⟩) := fun x => (hj.alloc hb x).c2
  clear hj
  dsimp only at h1 h2 ⊢
  cases fi <;> cases be
  · go_enter Try.func86, Try.ntmps86
    go_wp2_with fail
    go_quiet (fail)
    go_wp2_with fail
    go_ret
    exact ⟨by rw [HR.out]; simp []; try omega, HB.out _ _⟩
  · by_cases he : ep = je
    · subst he
      go_enter Try.func86, Try.ntmps86
      go_wp2_with fail
      go_quiet (fail)
      go_wp2_with fail
      go_ret
      exact ⟨by rw [HR.out]; simp []; try omega, HB.out _ _⟩
    · have he2 : ((ep : Int) == (je : Int)) = false := by rw [beq_eq_false_iff_ne]; omega
      go_enter Try.func86, Try.ntmps86
      go_wp2_with fail
      go_quiet (fail)
      go_wp2_with fail
      go_ret
      exact ⟨by rw [HR.out]; simp [he]; try omega, HB.out _ _⟩
  · go_enter Try.func86, Try.ntmps86
    go_wp2_with fail
    go_quiet (fail)
    go_wp2_with fail
    go_ret
    exact ⟨by rw [HR.out]; simp []; try omega, HB.out _ _⟩
  · go_enter Try.func86, Try.ntmps86
    go_wp2_with fail
    go_quiet (fail)
    go_wp2_with fail
    go_ret
    exact ⟨by rw [HR.out]; simp []; try omega, HB.out _ _⟩
end Go.Proofs.Ytmaaljfcnnlnpaa

namespace Go.Proofs.Ytmaaljfcnnlnpaa
open Go.RowKit

/-- Nothing that was there has turned but the three cells at ⟨b, o⟩. -/
structure Tk (w w' : World) (b o : Nat) : Prop where
  os : w'.os = w.os
  tape : w'.tape = w.tape
  output : w'.output = w.output
  size : w.heap.size ≤ w'.heap.size
  block : ∀ k, k < w.heap.size → k ≠ b → w'.heap[k]? = w.heap[k]?
  cell : ∀ i, (i < o ∨ o + 3 ≤ i) → w'.cell? ⟨b, i, none⟩ = w.cell? ⟨b, i, none⟩
  frozen : ∀ i, w'.frozen? ⟨b, i, none⟩ = w.frozen? ⟨b, i, none⟩

theorem Tk.below {w w' : World} {b o B : Nat} (h : Tk w w' b o) (hB : B ≤ b) (hB2 : B ≤ w.heap.size) : Below B w w' :=
  ⟨h.os, h.tape, h.output, h.size, fun k hk => h.block k (by omega) (by omega)⟩

theorem Tk.of_below {w w' : World} {b o : Nat} (h : Below w.heap.size w w') (hb : b < w.heap.size) : Tk w w' b o :=
  ⟨h.os, h.tape, h.output, h.size, fun k hk _ => h.block k hk, fun i _ => h.cell (p := ⟨b, i, none⟩) hb, fun i => h.frozen (p := ⟨b, i, none⟩) hb⟩

theorem Tk.trans {w w1 w2 : World} {b o : Nat} (h : Tk w w1 b o) (k : Tk w1 w2 b o) : Tk w w2 b o :=
  ⟨k.os.trans h.os, k.tape.trans h.tape, k.output.trans h.output, Nat.le_trans h.size k.size, fun i hi hne => (k.block i (Nat.lt_of_lt_of_le hi h.size) hne).trans (h.block i hi hne),
   fun i hi => (k.cell i hi).trans (h.cell i hi), fun i => (k.frozen i).trans (h.frozen i)⟩

/-- A joiner written over one. -/
theorem JnAt.put {w : World} {b o : Nat} {j : Jn} (h : JnAt w b o j) (j' : Jn) :
    JnAt (((w.setCell ⟨b, o, none⟩ (.bool j'.be)).setCell ⟨b, o + 1, none⟩ (.int .u32 (j'.ep : Int))).setCell ⟨b, o + 2, none⟩ (.string ⟨j'.rc.toArray⟩)) b o j' ∧
    Tk w (((w.setCell ⟨b, o, none⟩ (.bool j'.be)).setCell ⟨b, o + 1, none⟩ (.int .u32 (j'.ep : Int))).setCell ⟨b, o + 2, none⟩ (.string ⟨j'.rc.toArray⟩)) b o := by
  have hin := World.cell?_setCells_in b [.bool j'.be, .int .u32 (j'.ep : Int), .string ⟨j'.rc.toArray⟩] o w (by
    intro i hi
    have : i = 0 ∨ i = 1 ∨ i = 2 := by simp at hi; omega
    rcases this with rfl | rfl | rfl
    · rw [show o + 0 = o from rfl, h.c0]; rfl
    · rw [h.c1]; rfl
    · rw [h.c2]; rfl)
  refine ⟨⟨hin 0 (by simp), hin 1 (by simp), hin 2 (by simp)⟩, ⟨rfl, rfl, rfl, by simp [World.setCell], fun k _ hne => ?_, fun i hi => ?_, fun i => ?_⟩⟩
  · rw [Below.heap_setCell _ _ _ _ hne, Below.heap_setCell _ _ _ _ hne, Below.heap_setCell _ _ _ _ hne]
  · exact World.cell?_setCells_out b [.bool j'.be, .int .u32 (j'.ep : Int), .string ⟨j'.rc.toArray⟩] o w ⟨b, i, none⟩ (fun _ _ => by simpa using hi)
  · exact World.frozen?_setCells b [.bool j'.be, .int .u32 (j'.ep : Int), .string ⟨j'.rc.toArray⟩] o w ⟨b, i, none⟩

/-- The boxed page's cells, in a world behind. -/
theorem pg_boxed (w w1 : World) (e n : Nat) (k : Int) (f l : Bool) (d : ByteArray) (y : TypeId)
    (hb : Below (w.alloc (Obj.cells #[.int .u32 e, .int .u32 n, .int .i64 k, .bool f, .bool l, .string d] y)).heap.size (w.alloc (Obj.cells #[.int .u32 e, .int .u32 n, .int .i64 k, .bool f, .bool l, .string d] y)) w1) :
    w1.cell? ⟨w.heap.size, 0, none⟩ = some (.int .u32 e) ∧ w1.cell? ⟨w.heap.size, 1, none⟩ = some (.int .u32 n) ∧ w1.cell? ⟨w.heap.size, 2, none⟩ = some (.int .i64 k) ∧
    w1.cell? ⟨w.heap.size, 3, none⟩ = some (.bool f) ∧ w1.cell? ⟨w.heap.size, 4, none⟩ = some (.bool l) ∧ w1.cell? ⟨w.heap.size, 5, none⟩ = some (.string d) := by
  have h : ∀ i, w1.cell? ⟨w.heap.size, i, none⟩ = (w.alloc (Obj.cells #[.int .u32 e, .int .u32 n, .int .i64 k, .bool f, .bool l, .string d] y)).cell? ⟨w.heap.size, i, none⟩ := fun i => hb.cell (p := ⟨w.heap.size, i, none⟩) (by simp)
  simp only [h, World.cell?_alloc_new]
  exact ⟨rfl, rfl, rfl, rfl, rfl, rfl⟩

set_option maxRecDepth 100000 in
set_option maxHeartbeats 2000000 in
theorem take_any (j : Jn) (p : Pg) (b o : Nat) (w : World) (hj : JnAt w b o j) (hb : b < w.heap.size) (h1 : j.rc.length ≤ 4096) (h2 : p.da.length ≤ maxLen) (hf : ∀ i, w.frozen? ⟨b, i, none⟩ = false) :
    Calls Try.prog 45 #[.pointer (some ⟨b, o, none⟩), .agg #[.int .u32 p.ep, .int .u32 p.nu, .int .i64 p.ki, .bool p.fi, .bool p.la, .string ⟨p.da.toArray⟩]] w
      fun r w' => r = .returned (.tuple #[.string ⟨(j.take p).2.1.toArray⟩, .bool (j.take p).2.2.1, .int .i64 (j.take p).2.2.2]) ∧ JnAt w' b o (j.take p).1 ∧ Tk w w' b o := by
  have R := Lib.hid (fun W => right_any p h2 W)
  have F := Lib.hid (fun W hJ hB h3 => fits_any j p b o W hJ hB h1 h3)
  have HJ := Lib.hid hj
  have HT := Lib.hid (show Tk w w b o from Tk.of_below (Below.refl _ _) hb)
  have HF := Lib.hid hf
  clear hj hf
  have hlr : p.right = true → p.da.length ≤ 49 := by
    intro h
    unfold Pg.right at h
    simp at h
    omega
  have HLR := Lib.hid hlr
  clear hlr h2
  obtain ⟨ep, nu, ki, fi, la, da⟩ := p
  obtain ⟨be, je, rc⟩ := j
  dsimp only at R F HLR h1 ⊢
  unfold Jn.take
  by_cases hr : Pg.right ⟨ep, nu, ki, fi, la, da⟩ = true
  · rw [if_pos hr]
    rw [hr] at R
    dsimp only
    by_cases hk : ki = 2
    · rw [if_pos hk]
      subst hk
      by_cases hfi : Jn.fits ⟨be, je, rc⟩ ⟨ep, nu, 2, fi, la, da⟩ = true
      · rw [if_pos hfi]
        rw [hfi] at F
        have hlen : rc.length + da.length ≤ 4096 := by
          unfold Jn.fits at hfi
          simp only [Bool.and_eq_true, decide_eq_true_eq] at hfi
          exact hfi.2
        have hadd : (⟨rc.toArray⟩ : ByteArray) ++ (⟨da.toArray⟩ : ByteArray) = ⟨(rc ++ da).toArray⟩ := by
          apply ByteArray.ext
          apply Array.ext'
          simp [ByteArray.data_append]
        have HA := Lib.hid hadd
        clear hadd
        go_enter Try.func45, Try.ntmps45
        go_wp2_with fail
        refine (R.out _).mono ?_
        rintro e w1 ⟨rfl, hb1⟩
        have HB := Lib.hid (((Below.refl _ _).alloc (Nat.le_refl _) _).trans (hb1.mono (by simp)))
        obtain ⟨q0, q1, q2, q3, q4, q5⟩ := pg_boxed _ _ _ _ _ _ _ _ _ hb1
        have HB1 := Lib.hid hb1
        clear hb1
        go_wp2_with fail
        refine (F.out _ (HJ.out.below HB.out hb) (Nat.lt_of_lt_of_le hb HB.out.size) (HLR.out hr)).mono ?_
        rintro e w2 ⟨rfl, hb2⟩
        have hszw : (w.alloc (Obj.cells #[] 44)).heap.size ≤ w2.heap.size := Nat.le_trans (by simpa using HB1.out.size) hb2.size
        have HB2 := Lib.hid (HB.out.trans (hb2.mono HB.out.size))
        obtain ⟨q0, q1, q2, q3, q4, q5⟩ := pg_boxed _ _ _ _ _ _ _ _ _ (HB1.out.trans (hb2.mono HB1.out.size))
        clear hb2
        have f2 : ∀ i, w2.frozen? ⟨b, i, none⟩ = false := fun i => (HB2.out.frozen (p := ⟨b, i, none⟩) hb).trans (HF.out i)
        obtain ⟨k0, k1, k2⟩ := HJ.out.below HB2.out hb
        dsimp only at k0 k1 k2
        go_wp2_with fail
        go_region
        simp only [HA.out]
        have hput := (HJ.out.below HB2.out hb).put ⟨true, ep, rc ++ da⟩
        have hlt2 : w.heap.size < w2.heap.size := Nat.lt_of_lt_of_le (by simp) hszw
        dsimp only at hput
        generalize hW : (((w2.setCell ⟨b, o, none⟩ (.bool true)).setCell ⟨b, o + 1, none⟩ (.int .u32 (ep : Int))).setCell ⟨b, o + 2, none⟩ (.string ⟨(rc ++ da).toArray⟩)) = W3 at hput ⊢
        obtain ⟨hz, ht⟩ := hput
        have hz2 : JnAt W3.drew b o ⟨true, ep, rc ++ da⟩ := ⟨hz.c0, hz.c1, hz.c2⟩
        have q : W3.drew.cell? ⟨w.heap.size, 4, none⟩ = some (.bool la) := (World.cell?_of_block (w := w2) (ht.block w.heap.size hlt2 (by omega))).trans q4
        have f3 : ∀ i, W3.drew.frozen? ⟨b, i, none⟩ = false := fun i => (ht.frozen i).trans (f2 i)
        have HT3 := Lib.hid (show Tk w W3.drew b o from (Tk.of_below HB2.out hb).trans (ht.trans (Tk.of_below (Below.refl _ _).drew (Nat.lt_of_lt_of_le (Nat.lt_of_lt_of_le hb HB2.out.size) ht.size))))
        clear hW hz ht q0 q1 q2 q3 q4 q5 k0 k1 k2 f2
        generalize W3.drew = W4 at *
        have HZ := Lib.hid hz2
        obtain ⟨k0, k1, k2⟩ := hz2
        dsimp only at k0 k1 k2
        cases la
        · go_wp2_with fail
          exact bodyPost_ret (v := .tuple #[.string ⟨[].toArray⟩, .bool false, .int .i64 0]) (by simp [results, Try.results45, go_sem]) rfl ⟨rfl, HZ.out, HT3.out⟩
        · go_wp2_with fail
          obtain ⟨hz, ht⟩ := HZ.out.put Jn.zero
          exact bodyPost_ret (v := .tuple #[.string ⟨(rc ++ da).toArray⟩, .bool true, .int .i64 0]) (by simp [results, Try.results45, go_sem]) rfl ⟨rfl, hz, HT3.out.trans ht⟩
      · rw [if_neg hfi]
        rw [Bool.not_eq_true] at hfi
        rw [hfi] at F
        go_enter Try.func45, Try.ntmps45
        go_wp2_with fail
        refine (R.out _).mono ?_
        rintro e w1 ⟨rfl, hb1⟩
        have HB := Lib.hid (((Below.refl _ _).alloc (Nat.le_refl _) _).trans (hb1.mono (by simp)))
        obtain ⟨q0, q1, q2, q3, q4, q5⟩ := pg_boxed _ _ _ _ _ _ _ _ _ hb1
        clear hb1
        go_wp2_with fail
        refine (F.out _ (HJ.out.below HB.out hb) (Nat.lt_of_lt_of_le hb HB.out.size) (HLR.out hr)).mono ?_
        rintro e w2 ⟨rfl, hb2⟩
        have HB2 := Lib.hid (HB.out.trans (hb2.mono HB.out.size))
        clear hb2 q0 q1 q2 q3 q4 q5
        have f2 : ∀ i, w2.frozen? ⟨b, i, none⟩ = false := fun i => (HB2.out.frozen (p := ⟨b, i, none⟩) hb).trans (HF.out i)
        obtain ⟨k0, k1, k2⟩ := HJ.out.below HB2.out hb
        dsimp only at k0 k1 k2
        go_wp2_with fail
        obtain ⟨hz, ht⟩ := (HJ.out.below HB2.out hb).put Jn.zero
        exact bodyPost_ret (v := .tuple #[.string ⟨[].toArray⟩, .bool false, .int .i64 4]) (by simp [results, Try.results45, go_sem]) rfl ⟨rfl, hz, (Tk.of_below HB2.out hb).trans ht⟩
    · rw [if_neg hk]
      go_enter Try.func45, Try.ntmps45
      go_wp2_with fail
      refine (R.out _).mono ?_
      rintro e w1 ⟨rfl, hb1⟩
      have HB := Lib.hid (((Below.refl _ _).alloc (Nat.le_refl _) _).trans (hb1.mono (by simp)))
      obtain ⟨q0, q1, q2, q3, q4, q5⟩ := pg_boxed _ _ _ _ _ _ _ _ _ hb1
      clear hb1
      go_wp2_with fail
      refine bodyPost_ret (v := .tuple #[.string ⟨[].toArray⟩, .bool false, .int .i64 0]) (by simp [results, Try.results45, go_sem]) rfl ⟨rfl, HJ.out.below HB.out hb, .of_below HB.out hb⟩
  · rw [if_neg hr]
    rw [Bool.not_eq_true] at hr
    rw [hr] at R
    go_enter Try.func45, Try.ntmps45
    go_wp2_with fail
    refine (R.out _).mono ?_
    rintro e w1 ⟨rfl, hb1⟩
    have HB := Lib.hid (((Below.refl _ _).alloc (Nat.le_refl _) _).trans (hb1.mono (by simp)))
    clear hb1
    go_wp2_with fail
    refine bodyPost_ret (v := .tuple #[.string ⟨[].toArray⟩, .bool false, .int .i64 1]) (by simp [results, Try.results45, go_sem]) rfl ⟨rfl, HJ.out.below HB.out hb, .of_below HB.out hb⟩
end Go.Proofs.Ytmaaljfcnnlnpaa
