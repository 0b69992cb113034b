/-
  A disk of the call's own, and the document's example.
-/
import Derived.Test.YtmaaljfcnnlnpaaOpen4
namespace Go.Proofs.Ytmaaljfcnnlnpaa
open Go.RowKit

/-- A disk of the call's own in W, and the blocks l that its calls leave alone. -/
structure DS (w W : World) (d m1 m2 : Nat) (D : Dk) (l : List Nat) : Prop where
  below : Below w.heap.size w W
  ge : w.heap.size ≤ m1
  dk : ∃ v, DkAt W d m1 m2 v D ∧ ∀ k ∈ l, k < W.heap.size ∧ k ≠ d ∧ k ≠ m1 ∧ k ≠ m2 ∧ v.ownBlock ≠ some k
  lge : ∀ k ∈ l, w.heap.size ≤ k

/-- The blocks l stand. -/
def Stays (W W' : World) (l : List Nat) : Prop := ∀ k ∈ l, W'.heap[k]? = W.heap[k]?
theorem Stays.trans {W X Y : World} {l : List Nat} (h : Stays W X l) (k : Stays X Y l) : Stays W Y l := fun i hi => (k i hi).trans (h i hi)

theorem DS.step {w W W' : World} {d m1 m2 : Nat} {D : Dk} {l : List Nat} (h : DS w W d m1 m2 D l) (hb : Below W.heap.size W W') : DS w W' d m1 m2 D l ∧ Stays W W' l := by
  obtain ⟨v, h1, h2⟩ := h.dk
  exact ⟨⟨h.below.trans (hb.mono h.below.size), h.ge, ⟨v, h1.below hb, fun k hk => ⟨Nat.lt_of_lt_of_le (h2 k hk).1 hb.size, (h2 k hk).2⟩⟩, h.lge⟩, fun k hk => hb.block k (h2 k hk).1⟩

/-- A block of the call's own made. -/
theorem DS.alloc {w W : World} {d m1 m2 : Nat} {D : Dk} {l : List Nat} (h : DS w W d m1 m2 D l) (x : Obj) : DS w (W.alloc x) d m1 m2 D (W.heap.size :: l) := by
  have hb : Below W.heap.size W (W.alloc x) := (Below.refl _ _).alloc (Nat.le_refl _) x
  obtain ⟨k1, k2⟩ := h.step hb
  obtain ⟨v, h1, h2⟩ := k1.dk
  obtain ⟨v', h3, h4⟩ := h.dk
  have hlt := h3.lt
  have ho1 := h3.o1
  have ho2 := h3.o2
  refine ⟨k1.below, h.ge, ⟨v', h3.below hb, fun k hk => ?_⟩, fun k hk => ?_⟩
  · rcases List.mem_cons.1 hk with rfl | hk
    · exact ⟨by simp, by omega, by omega, by omega, fun e => by
        have := (ownsRow_ge h3.row e).2
        omega⟩
    · exact ⟨Nat.lt_of_lt_of_le (h4 k hk).1 hb.size, (h4 k hk).2⟩
  · rcases List.mem_cons.1 hk with rfl | hk
    · exact h.below.size
    · exact h.lge k hk

/-- Only the block k of the call's own turned. -/
theorem DS.turn {w W W' : World} {d m1 m2 : Nat} {D : Dk} {l : List Nat} (h : DS w W d m1 m2 D l) {k : Nat} (hk : k ∈ l) (hs : W'.heap.size = W.heap.size) (hb : ∀ i, i ≠ k → W'.heap[i]? = W.heap[i]?) (hos : W'.os = W.os) (ht : W'.tape = W.tape) (ho : W'.output = W.output) : DS w W' d m1 m2 D l := by
  obtain ⟨v, h1, h2⟩ := h.dk
  have hlt := h1.lt
  have ho1 := h1.o1
  have ho2 := h1.o2
  obtain ⟨a1, a2, a3, a4, a5⟩ := h2 k hk
  have hge := h.lge k hk
  refine ⟨⟨hos.trans h.below.os, ht.trans h.below.tape, ho.trans h.below.output, by rw [hs]; exact h.below.size, fun i hi => (hb i (by omega)).trans (h.below.block i hi)⟩, h.ge, ⟨v, ?_, fun i hi => by rw [hs]; exact h2 i hi⟩, h.lge⟩
  exact h1.of_blocks (by omega) (hb _ (Ne.symm a2)) (hb _ (Ne.symm a3)) (hb _ (Ne.symm a4)) (fun g hg => hb g (fun e => a5 (e ▸ hg)))

/-- A call of the disk's. -/
theorem DS.call {w W W' : World} {d m1 m2 : Nat} {D D' : Dk} {l : List Nat} {v v' : Value} (h : DS w W d m1 m2 D l) (hv : DkAt W d m1 m2 v D ∧ ∀ k ∈ l, k < W.heap.size ∧ k ≠ d ∧ k ≠ m1 ∧ k ≠ m2 ∧ v.ownBlock ≠ some k) (hd : DkAt W' d m1 m2 v' D') (hf : DFr W W' d m1 m2 v v') :
    DS w W' d m1 m2 D' l ∧ Stays W W' l := by
  refine ⟨⟨h.below.trans (hf.below hv.1 h.ge), h.ge, ⟨v', hd, fun k hk => ?_⟩, h.lge⟩, fun k hk => ?_⟩
  · obtain ⟨a1, a2, a3, a4, a5⟩ := hv.2 k hk
    exact ⟨Nat.lt_of_lt_of_le a1 hf.size, a2, a3, a4, fun e => by
      rcases hf.own k e with h1 | h1
      · exact a5 h1
      · omega⟩
  · obtain ⟨a1, a2, a3, a4, a5⟩ := hv.2 k hk
    exact hf.block k a1 a2 a3 a4 a5

section
variable {w W : World} {d m1 m2 : Nat} {D : Dk} {l : List Nat}

theorem ds_new (n : Int) (h1 : 1 ≤ n) (h2 : n ≤ 1024) (hb : Below w.heap.size w W) :
    Calls Try.prog 53 #[.int .i64 n] W fun r w' => ∃ d m1 m2, r = .returned (.tuple #[.pointer (some ⟨d, 0, none⟩), .int .i64 0]) ∧ DS w w' d m1 m2 (Dk.new n) [] := by
  refine (new_any n h1 h2 W).mono ?_
  rintro r w' ⟨d, m1, m2, rfl, hd, hb2, hge⟩
  exact ⟨d, m1, m2, rfl, hb.trans (hb2.mono hb.size), Nat.le_trans hb.size hge, ⟨_, hd, fun k hk => by cases hk⟩, fun k hk => by cases hk⟩

theorem ds_read (h : DS w W d m1 m2 D l) (i : Int) (hm : D.may i = 0) (hlen : D.loose.length ≤ 100000) :
    Calls Try.prog 57 #[.pointer (some ⟨d, 0, none⟩), .int .i64 i] W fun r w' => r = .returned (.tuple #[.agg ((D.seen i).map bv).toArray, .int .i64 0]) ∧ DS w w' d m1 m2 (D.read i) l ∧ Stays W w' l := by
  obtain ⟨v, hv⟩ := h.dk
  refine (dread_yes hv.1 i hm (by unfold maxLen; omega)).mono ?_
  rintro r w' ⟨rfl, hd, hf⟩
  exact ⟨rfl, h.call hv hd hf⟩

theorem ds_read_no (h : DS w W d m1 m2 D l) (i : Int) (hm : D.may i ≠ 0) :
    Calls Try.prog 57 #[.pointer (some ⟨d, 0, none⟩), .int .i64 i] W fun r w' => r = .returned (.tuple #[.agg (zero64.map bv).toArray, .int .i64 (D.may i : Nat)]) ∧ DS w w' d m1 m2 D l ∧ Stays W w' l := by
  obtain ⟨v, hv⟩ := h.dk
  refine (dread_no hv.1 i hm).mono ?_
  rintro r w' ⟨rfl, hd, hf⟩
  exact ⟨rfl, h.call hv hd hf⟩

theorem ds_write (h : DS w W d m1 m2 D l) (i : Int) (p : List UInt8) (hp : p.length = 64) (hm : D.may i = 0) (hf : D.fuse ≠ 0) (hf2 : -1 ≤ D.fuse ∧ D.fuse ≤ 9223372036854775807) (hlen : D.loose.length ≤ 100000) :
    Calls Try.prog 54 #[.pointer (some ⟨d, 0, none⟩), .int .i64 i, .agg (p.map bv).toArray] W fun r w' => r = .returned (.int .i64 0) ∧ DS w w' d m1 m2 (D.burnt.wrote i p) l ∧ Stays W w' l := by
  obtain ⟨v, hv⟩ := h.dk
  refine (dwrite_yes hv.1 i p hp hm hf hf2 hlen).mono ?_
  rintro r w' ⟨v', rfl, hd, hf⟩
  exact ⟨rfl, h.call hv hd hf⟩

theorem ds_write_no (h : DS w W d m1 m2 D l) (i : Int) (p : List UInt8) (hm : D.may i ≠ 0) :
    Calls Try.prog 54 #[.pointer (some ⟨d, 0, none⟩), .int .i64 i, .agg (p.map bv).toArray] W fun r w' => r = .returned (.int .i64 (D.may i : Nat)) ∧ DS w w' d m1 m2 D l ∧ Stays W w' l := by
  obtain ⟨v, hv⟩ := h.dk
  refine (dwrite_no hv.1 i p hm).mono ?_
  rintro r w' ⟨rfl, hd, hf⟩
  exact ⟨rfl, h.call hv hd hf⟩

theorem ds_write_fused (h : DS w W d m1 m2 D l) (i : Int) (p : List UInt8) (hm : D.may i = 0) (hf : D.fuse = 0) :
    Calls Try.prog 54 #[.pointer (some ⟨d, 0, none⟩), .int .i64 i, .agg (p.map bv).toArray] W fun r w' => r = .returned (.int .i64 6) ∧ DS w w' d m1 m2 D l ∧ Stays W w' l := by
  obtain ⟨v, hv⟩ := h.dk
  refine (dwrite_fused hv.1 i p hm hf).mono ?_
  rintro r w' ⟨rfl, hd, hf⟩
  exact ⟨rfl, h.call hv hd hf⟩

theorem ds_sync (h : DS w W d m1 m2 D l) (hm : D.may 0 = 0) (hf : D.fuse ≠ 0) (hf2 : -1 ≤ D.fuse ∧ D.fuse ≤ 9223372036854775807) (hlen : D.loose.length ≤ 100000) :
    Calls Try.prog 64 #[.pointer (some ⟨d, 0, none⟩)] W fun r w' => r = .returned (.int .i64 0) ∧ DS w w' d m1 m2 (D.burnt.settled fun _ => true) l ∧ Stays W w' l := by
  obtain ⟨v, hv⟩ := h.dk
  refine (sync_yes hv.1 hm hf hf2 hlen).mono ?_
  rintro r w' ⟨rfl, hd, hf⟩
  exact ⟨rfl, h.call hv hd hf⟩

theorem ds_sync_no (h : DS w W d m1 m2 D l) (hm : D.may 0 ≠ 0) :
    Calls Try.prog 64 #[.pointer (some ⟨d, 0, none⟩)] W fun r w' => r = .returned (.int .i64 (D.may 0 : Nat)) ∧ DS w w' d m1 m2 D l ∧ Stays W w' l := by
  obtain ⟨v, hv⟩ := h.dk
  refine (sync_no hv.1 hm).mono ?_
  rintro r w' ⟨rfl, hd, hf⟩
  exact ⟨rfl, h.call hv hd hf⟩

theorem ds_sync_fused (h : DS w W d m1 m2 D l) (hm : D.may 0 = 0) (hf : D.fuse = 0) :
    Calls Try.prog 64 #[.pointer (some ⟨d, 0, none⟩)] W fun r w' => r = .returned (.int .i64 6) ∧ DS w w' d m1 m2 D l ∧ Stays W w' l := by
  obtain ⟨v, hv⟩ := h.dk
  refine (sync_fused hv.1 hm hf).mono ?_
  rintro r w' ⟨rfl, hd, hf⟩
  exact ⟨rfl, h.call hv hd hf⟩

theorem ds_up (h : DS w W d m1 m2 D l) :
    Calls Try.prog 56 #[.pointer (some ⟨d, 0, none⟩)] W fun r w' => r = .returned (.tuple #[]) ∧ DS w w' d m1 m2 { D with down := false } l ∧ Stays W w' l := by
  obtain ⟨v, hv⟩ := h.dk
  refine (up_any hv.1).mono ?_
  rintro r w' ⟨rfl, hd, hf⟩
  exact ⟨rfl, h.call hv hd hf⟩

theorem ds_fuse (h : DS w W d m1 m2 D l) (n : Int) :
    Calls Try.prog 69 #[.pointer (some ⟨d, 0, none⟩), .int .i64 n] W fun r w' => r = .returned (.tuple #[]) ∧ DS w w' d m1 m2 { D with fuse := max n (-1) } l ∧ Stays W w' l := by
  obtain ⟨v, hv⟩ := h.dk
  refine (fuse_any hv.1 n).mono ?_
  rintro r w' ⟨rfl, hd, hf⟩
  exact ⟨rfl, h.call hv hd hf⟩

theorem ds_loose (h : DS w W d m1 m2 D l) : Calls Try.prog 58 #[.pointer (some ⟨d, 0, none⟩)] W fun r w' => r = .returned (.int .i64 (D.loose.length : Nat)) ∧ W = w' := h.dk.elim fun _ hv => loose_any hv.1
theorem ds_size (h : DS w W d m1 m2 D l) : Calls Try.prog 65 #[.pointer (some ⟨d, 0, none⟩)] W fun r w' => r = .returned (.int .i64 D.size) ∧ W = w' := h.dk.elim fun _ hv => size_any hv.1
theorem ds_reads (h : DS w W d m1 m2 D l) (i : Int) : Calls Try.prog 71 #[.pointer (some ⟨d, 0, none⟩), .int .i64 i] W fun r w' => r = .returned (.int .i64 (D.reads i)) ∧ W = w' := h.dk.elim fun _ hv => reads_any hv.1 i

/-- The keep lies in a block of the call's own, or below it. -/
theorem KeepAt.stays {W W' : World} {kv : Value} {n : Nat} {ks : Nat → Bool} {l : List Nat} {B : Nat} (h : KeepAt W kv n ks) (hs : Stays W W' l) (hb : Below B W W') (hl : ∀ b o m cap, kv = .slice (some ⟨b, o, none⟩) m cap → 0 < n → b < B ∨ b ∈ l) : KeepAt W' kv n ks := by
  obtain ⟨a, cap, rfl, h⟩ := h
  refine ⟨a, cap, rfl, ?_⟩
  by_cases h0 : n = 0
  · exact .inl h0
  · rcases h with h | ⟨b, o, rfl, h⟩
    · exact .inl h
    · right
      refine ⟨b, o, rfl, fun i hi => ?_⟩
      have e : W'.heap[b]? = W.heap[b]? := by
        rcases hl b o n cap rfl (by omega) with h1 | h1
        · exact hb.block b h1
        · exact hs b h1
      exact (World.cell?_of_block (a := ⟨b, o + i, none⟩) e).trans (h i hi)

theorem ds_crash (h : DS w W d m1 m2 D l) (hlen : D.loose.length ≤ 100000) (kv : Value) (n : Nat) (ks : Nat → Bool) (hk : ∀ X, Stays W X l → Below w.heap.size W X → KeepAt X kv n ks) :
    Calls Try.prog 55 #[.pointer (some ⟨d, 0, none⟩), kv] W fun r w' => r = .returned (.tuple #[]) ∧ DS w w' d m1 m2 { D.settled (kept n ks) with down := true } l ∧ Stays W w' l := by
  obtain ⟨v, hv⟩ := h.dk
  refine (crash_any hv.1 hlen kv n ks (fun X hX => hk X (fun k hk => ?_) (hX.below hv.1 h.ge))).mono ?_
  · obtain ⟨a1, a2, a3, a4, a5⟩ := hv.2 k hk
    exact hX.block k a1 a2 a3 a4 a5
  · rintro r w' ⟨rfl, hd, hf⟩
    exact ⟨rfl, h.call hv hd hf⟩

/-- A keep among the arguments. -/
theorem ds_crash_arg (h : DS w W d m1 m2 D l) (hlen : D.loose.length ≤ 100000) (kv : Value) (n : Nat) (ks : Nat → Bool) (hk : KeepAt w kv n ks) :
    Calls Try.prog 55 #[.pointer (some ⟨d, 0, none⟩), kv] W fun r w' => r = .returned (.tuple #[]) ∧ DS w w' d m1 m2 { D.settled (kept n ks) with down := true } l ∧ Stays W w' l :=
  ds_crash h hlen kv n ks (fun _ _ hb => hk.below (h.below.trans hb))
end

/-- A block with contents of its own, made behind a letter world. -/
theorem DS.made {w W W' : World} {d m1 m2 : Nat} {D : Dk} {l : List Nat} (h : DS w W d m1 m2 D l) (hb : Below W.heap.size W W') (hlt : W.heap.size < W'.heap.size) : DS w W' d m1 m2 D (W.heap.size :: l) := by
  obtain ⟨k1, _⟩ := h.step hb
  obtain ⟨v, h3, h4⟩ := h.dk
  have h5 := h3.lt
  have ho1 := h3.o1
  have ho2 := h3.o2
  refine ⟨k1.below, h.ge, ⟨v, h3.below hb, fun k hk => ?_⟩, fun k hk => ?_⟩
  · rcases List.mem_cons.1 hk with rfl | hk
    · exact ⟨hlt, by omega, by omega, by omega, fun e => by
        have := (ownsRow_ge h3.row e).2
        omega⟩
    · exact ⟨Nat.lt_of_lt_of_le (h4 k hk).1 hb.size, (h4 k hk).2⟩
  · rcases List.mem_cons.1 hk with rfl | hk
    · exact h.below.size
    · exact h.lge k hk

theorem DS.buf {w W W' : World} {d m1 m2 : Nat} {D : Dk} {l : List Nat} (h : DS w W' d m1 m2 D l) (hs : Stays W W' l) {g : Nat} (hg : g ∈ l) {bs : List UInt8} (hb : Buf W g bs) : Buf W' g bs := by
  have hlt : g < W'.heap.size := h.dk.elim fun _ h => (h.2 g hg).1
  exact ⟨fun j v hv => (World.cell?_of_block (a := ⟨g, 0 + j, none⟩) (hs g hg)).trans (hb.range j v hv), fun i => (World.frozen?_of_block (a := ⟨g, i, none⟩) (hs g hg)).trans (hb.frozen i), hb.len, hlt⟩
end Go.Proofs.Ytmaaljfcnnlnpaa
