/-
  Eight pages in a block of their own; a disk of eight sectors that has no fuse.
-/
import Derived.Test.YtmaaljfcnnlnpaaDiskWalk8
namespace Go.Proofs.Ytmaaljfcnnlnpaa
open Go.RowKit

/-- The last three bits of a number. -/
def m8 (a : Int) : Int := bits BinOp.and .i64 a 7

theorem m8_range (a : Int) : 0 ≤ m8 a ∧ m8 a < 8 := by
  have h : m8 a = IntKind.i64.wrap (((BitVec.ofInt 64 a) &&& (BitVec.ofInt 64 7)).toNat) := rfl
  have h2 : ((BitVec.ofInt 64 a) &&& (BitVec.ofInt 64 7)).toNat ≤ 7 := by
    rw [BitVec.toNat_and]
    exact Nat.le_trans Nat.and_le_right (by decide)
  rw [h, IntKind.wrap_i64]
  omega

/-- Eight pages in block g. -/
structure Arr (W : World) (g : Nat) (f : Nat → List UInt8) : Prop where
  at_ : ∀ i, i < 8 → W.rangeAt g (i * 64) ((f i).map bv)
  len : ∀ i, (f i).length = 64
  fz : ∀ j, W.frozen? ⟨g, j, none⟩ = false

theorem Arr.of_block {W W' : World} {g : Nat} {f : Nat → List UInt8} (h : Arr W g f) (e : W'.heap[g]? = W.heap[g]?) : Arr W' g f :=
  ⟨fun i hi j v hv => (World.cell?_of_block (a := ⟨g, i * 64 + j, none⟩) e).trans (h.at_ i hi j v hv), h.len, fun j => (World.frozen?_of_block (a := ⟨g, j, none⟩) e).trans (h.fz j)⟩

theorem Arr.stays {W W' : World} {g : Nat} {f : Nat → List UInt8} {l : List Nat} (h : Arr W g f) (hs : Stays W W' l) (hg : g ∈ l) : Arr W' g f := h.of_block (hs g hg)

theorem Arr.there {W : World} {g : Nat} {f : Nat → List UInt8} (h : Arr W g f) (i : Nat) (hi : i < 8) : W.there g (i * 64) 64 := fun j hj => by
  refine ⟨?_, h.fz _⟩
  have hjl : j < (f i).length := by rw [h.len]; exact hj
  have := h.at_ i hi j (bv (f i)[j]) (by rw [List.getElem?_map, List.getElem?_eq_getElem hjl]; rfl)
  rw [this]; rfl

theorem Arr.set {W : World} {g : Nat} {f : Nat → List UInt8} (h : Arr W g f) (i : Nat) (hi : i < 8) (p : List UInt8) (hp : p.length = 64) : Arr (W.setCells g (i * 64) (p.map bv)) g (fun j => if j = i then p else f j) := by
  refine ⟨fun j hj => ?_, fun j => ?_, fun j => by rw [World.frozen?_setCells]; exact h.fz j⟩
  · by_cases e : j = i
    · subst e
      simp only [if_true]
      exact World.rangeAt_setCells_same _ _ _ _ (by simpa [hp] using h.there j hj)
    · simp only [if_neg e]
      refine World.rangeAt_setCells_apart (h.at_ j hj) _ _ _ (.inr ?_)
      simp only [List.length_map, h.len, hp]
      omega
  · split
    · exact hp
    · exact h.len j

theorem setCells_block (g o : Nat) (vs : List Value) (W : World) (k : Nat) (hk : k ≠ g) : (W.setCells g o vs).heap[k]? = W.heap[k]? := by
  induction vs generalizing o W with
  | nil => rfl
  | cons v vs ih =>
    rw [World.setCells, ih]
    exact Below.heap_setCell W ⟨g, o, none⟩ v k hk

theorem setCells_env (g : Nat) (vs : List Value) : ∀ (o : Nat) (W : World), (W.setCells g o vs).os = W.os ∧ (W.setCells g o vs).tape = W.tape ∧ (W.setCells g o vs).output = W.output := by
  induction vs with
  | nil => exact fun o W => ⟨rfl, rfl, rfl⟩
  | cons v vs ih => exact fun o W => by rw [World.setCells]; exact ih _ _

theorem DS.setCells {w W : World} {d m1 m2 : Nat} {D : Dk} {l : List Nat} (h : DS w W d m1 m2 D l) {g : Nat} (hg : g ∈ l) (o : Nat) (vs : List Value) : DS w (W.setCells g o vs) d m1 m2 D l :=
  h.turn hg (heap_size_setCells _ _ _ _) (fun _ hi => setCells_block _ _ _ _ _ hi) (setCells_env _ _ _ _).1 (setCells_env _ _ _ _).2.1 (setCells_env _ _ _ _).2.2

theorem DS.less {w W : World} {d m1 m2 : Nat} {D : Dk} {l l' : List Nat} (h : DS w W d m1 m2 D l) (hl : ∀ k ∈ l', k ∈ l) : DS w W d m1 m2 D l' :=
  ⟨h.below, h.ge, h.dk.elim fun v hv => ⟨v, hv.1, fun k hk => hv.2 k (hl k hk)⟩, fun k hk => h.lge k (hl k hk)⟩

def zero512 : List Value := (List.range 512).map fun _ => Value.int .u8 0
theorem zero84 (w : World) : (Instr.alloc 84 true (.tuple #[])).run Try.prog w = .ok (.pointer (some ⟨w.heap.size, 0, none⟩)) (w.alloc (.cells zero512.toArray 84)) := by kernel_rfl

section
variable {ops : Array Oper} {rest : List Oper} {op : Oper} {a : Act} {w : World} {Q : Exit → Act → World → Prop}
/-- Eight zero pages made: the world behind is a letter. -/
theorem wpList_arr84 (ho : op.op = .alloc 84) (hw : Region.wanted op (yielded ops a.tmps) = true)
    (h : ∀ W', Arr W' w.heap.size (fun _ => zero64) → Below w.heap.size w W' → w.heap.size < W'.heap.size → wpList Try.prog ops Q rest (a.put op.dst (.pointer (some ⟨w.heap.size, 0, none⟩))) W') : wpList Try.prog ops Q (op :: rest) a w := by
  refine wpList_wanted hw ?_
  unfold Oper.wp execOp
  simp [ho, zero84, Result.andThen]
  refine h _ ⟨fun i hi j v hv => ?_, fun _ => rfl, fun j => World.frozen?_alloc_new _ _ _ _⟩ ((Below.refl _ _).alloc (Nat.le_refl _) _) (by simp)
  rw [World.cell?_alloc_new]
  have hj : j < 64 := by
    have := (List.getElem?_eq_some_iff.1 hv).1
    simpa [zero64_length] using this
  have hv2 : v = .int .u8 0 := by
    obtain ⟨h1, h2⟩ := List.getElem?_eq_some_iff.1 hv
    rw [← h2, List.getElem_map]
    have : ∀ b ∈ zero64, b = 0 := by decide
    rw [this _ (List.getElem_mem _)]
    rfl
  subst hv2
  have hk : i * 64 + j < 512 := by omega
  simp [zero512, hk]
end

/-- A disk of eight sectors that has no fuse. -/
def DE (S : Int → List UInt8) (L : List Wr) (r : Int → Int) : Dk := ⟨8, S, L, false, -1, r⟩
theorem DE.new : Dk.new 8 = DE (Dk.new 8).sure [] (Dk.new 8).reads := rfl
theorem DE.wrote (S : Int → List UInt8) (L : List Wr) (r : Int → Int) (i : Int) (p : List UInt8) : (DE S L r).burnt.wrote i p = DE S (L ++ [(i, p)]) r := rfl
theorem DE.read (S : Int → List UInt8) (L : List Wr) (r : Int → Int) (i : Int) : (DE S L r).read i = DE S L ((DE S L r).read i).reads := rfl
theorem DE.gone (S : Int → List UInt8) (L : List Wr) (r : Int → Int) (k : Nat → Bool) : { ({ (DE S L r).settled k with down := true } : Dk) with down := false } = DE (stl k L S) [] r := rfl
theorem DE.synced (S : Int → List UInt8) (L : List Wr) (r : Int → Int) (k : Nat → Bool) : (DE S L r).burnt.settled k = DE (stl k L S) [] r := rfl
theorem DE.may (S : Int → List UInt8) (L : List Wr) (r : Int → Int) (i : Int) (h : 0 ≤ i ∧ i < 8) : (DE S L r).may i = 0 := by
  show (if false = true then 7 else if i < 0 ∨ 8 ≤ i then 1 else 0) = 0
  rw [if_neg (by decide), if_neg (by omega)]

section
variable {w W : World} {d m1 m2 : Nat} {S : Int → List UInt8} {L : List Wr} {l : List Nat}

/-- The disk of eight sectors in W. -/
def DX (w W : World) (d m1 m2 : Nat) (S : Int → List UInt8) (L : List Wr) (l : List Nat) : Prop := ∃ r, DS w W d m1 m2 (DE S L r) l

theorem DX.below (h : DX w W d m1 m2 S L l) : Below w.heap.size w W := h.elim fun _ h => h.below
theorem DX.step {W' : World} (h : DX w W d m1 m2 S L l) (hb : Below W.heap.size W W') : DX w W' d m1 m2 S L l := h.elim fun r h => ⟨r, (h.step hb).1⟩
theorem DX.made {W' : World} (h : DX w W d m1 m2 S L l) (hb : Below W.heap.size W W') (hlt : W.heap.size < W'.heap.size) : DX w W' d m1 m2 S L (W.heap.size :: l) := h.elim fun r h => ⟨r, h.made hb hlt⟩
theorem DX.less {l' : List Nat} (h : DX w W d m1 m2 S L l) (hl : ∀ k ∈ l', k ∈ l) : DX w W d m1 m2 S L l' := h.elim fun r h => ⟨r, h.less hl⟩
theorem DX.setCells (h : DX w W d m1 m2 S L l) {g : Nat} (hg : g ∈ l) (o : Nat) (vs : List Value) : DX w (W.setCells g o vs) d m1 m2 S L l := h.elim fun r h => ⟨r, h.setCells hg o vs⟩
theorem DX.lt (h : DX w W d m1 m2 S L l) {g : Nat} (hg : g ∈ l) : g < W.heap.size := h.elim fun _ h => h.dk.elim fun _ h => (h.2 g hg).1
theorem DX.len (h : DX w W d m1 m2 S L l) (i : Int) : (S i).length = 64 := h.elim fun _ h => h.dk.elim fun _ h => h.1.ok.sure i
theorem DX.seenLen (h : DX w W d m1 m2 S L l) (i : Int) : ((lastAt L i).getD (S i)).length = 64 := h.elim fun _ h => h.dk.elim fun _ h => h.1.ok.seen i

theorem dx_new (hb : Below w.heap.size w W) : Calls Try.prog 53 #[.int .i64 8] W fun r w' => ∃ d m1 m2, r = .returned (.tuple #[.pointer (some ⟨d, 0, none⟩), .int .i64 0]) ∧ DX w w' d m1 m2 (fun _ => zero64) [] [] := by
  refine (ds_new 8 (by decide) (by decide) hb).mono ?_
  rintro r w' ⟨d, m1, m2, rfl, h⟩
  exact ⟨d, m1, m2, rfl, _, h⟩

theorem dx_read (h : DX w W d m1 m2 S L l) (i : Int) (hi : 0 ≤ i ∧ i < 8) (hlen : L.length ≤ 100000) :
    Calls Try.prog 57 #[.pointer (some ⟨d, 0, none⟩), .int .i64 i] W fun r w' => r = .returned (.tuple #[.agg (((lastAt L i).getD (S i)).map bv).toArray, .int .i64 0]) ∧ DX w w' d m1 m2 S L l ∧ Stays W w' l := by
  obtain ⟨r, h⟩ := h
  refine (ds_read h i (DE.may _ _ _ _ hi) hlen).mono ?_
  rintro r w' ⟨rfl, hd, hs⟩
  exact ⟨rfl, ⟨_, hd⟩, hs⟩

theorem dx_write (h : DX w W d m1 m2 S L l) (i : Int) (hi : 0 ≤ i ∧ i < 8) (p : List UInt8) (hp : p.length = 64) (hlen : L.length ≤ 100000) :
    Calls Try.prog 54 #[.pointer (some ⟨d, 0, none⟩), .int .i64 i, .agg (p.map bv).toArray] W fun r w' => r = .returned (.int .i64 0) ∧ DX w w' d m1 m2 S (L ++ [(i, p)]) l ∧ Stays W w' l := by
  obtain ⟨r, h⟩ := h
  refine (ds_write h i p hp (DE.may _ _ _ _ hi) (by show (-1 : Int) ≠ 0; decide) (by show (-1 : Int) ≤ -1 ∧ (-1 : Int) ≤ 9223372036854775807; decide) hlen).mono ?_
  rintro r w' ⟨rfl, hd, hs⟩
  exact ⟨rfl, ⟨_, hd⟩, hs⟩

theorem dx_sync (h : DX w W d m1 m2 S L l) (hlen : L.length ≤ 100000) :
    Calls Try.prog 64 #[.pointer (some ⟨d, 0, none⟩)] W fun r w' => r = .returned (.int .i64 0) ∧ DX w w' d m1 m2 (stl (fun _ => true) L S) [] l ∧ Stays W w' l := by
  obtain ⟨r, h⟩ := h
  refine (ds_sync h (DE.may _ _ _ _ (by decide)) (by show (-1 : Int) ≠ 0; decide) (by show (-1 : Int) ≤ -1 ∧ (-1 : Int) ≤ 9223372036854775807; decide) hlen).mono ?_
  rintro r w' ⟨rfl, hd, hs⟩
  exact ⟨rfl, ⟨_, hd⟩, hs⟩

theorem dx_loose (h : DX w W d m1 m2 S L l) : Calls Try.prog 58 #[.pointer (some ⟨d, 0, none⟩)] W fun r w' => r = .returned (.int .i64 (L.length : Nat)) ∧ W = w' := h.elim fun _ h => ds_loose h

/-- The disk while it is down. -/
def DZ (w W : World) (d m1 m2 : Nat) (S : Int → List UInt8) (l : List Nat) : Prop := ∃ r, DS w W d m1 m2 { DE S [] r with down := true } l

theorem dx_crash (h : DX w W d m1 m2 S L l) (hlen : L.length ≤ 100000) (kv : Value) (n : Nat) (ks : Nat → Bool) (hk : ∀ X, Stays W X l → Below w.heap.size W X → KeepAt X kv n ks) :
    Calls Try.prog 55 #[.pointer (some ⟨d, 0, none⟩), kv] W fun r w' => r = .returned (.tuple #[]) ∧ DZ w w' d m1 m2 (stl (kept n ks) L S) l ∧ Stays W w' l := by
  obtain ⟨r, h⟩ := h
  refine (ds_crash h hlen kv n ks hk).mono ?_
  rintro r w' ⟨rfl, hd, hs⟩
  exact ⟨rfl, ⟨_, hd⟩, hs⟩

theorem dx_crash_arg (h : DX w W d m1 m2 S L l) (hlen : L.length ≤ 100000) (kv : Value) (n : Nat) (ks : Nat → Bool) (hk : KeepAt w kv n ks) :
    Calls Try.prog 55 #[.pointer (some ⟨d, 0, none⟩), kv] W fun r w' => r = .returned (.tuple #[]) ∧ DZ w w' d m1 m2 (stl (kept n ks) L S) l ∧ Stays W w' l :=
  dx_crash h hlen kv n ks (fun _ _ hb => hk.below (h.below.trans hb))

theorem dx_up (h : DZ w W d m1 m2 S l) : Calls Try.prog 56 #[.pointer (some ⟨d, 0, none⟩)] W fun r w' => r = .returned (.tuple #[]) ∧ DX w w' d m1 m2 S [] l ∧ Stays W w' l := by
  obtain ⟨r, h⟩ := h
  refine (ds_up h).mono ?_
  rintro r w' ⟨rfl, hd, hs⟩
  exact ⟨rfl, ⟨_, hd⟩, hs⟩
end

/-- The first writes of a row of acts. -/
def wrs (l : Nat → Ac) (k : Nat) : List Wr := (List.range k).map fun i => (m8 (l i).at_, (l i).p)
theorem wrs_length (l : Nat → Ac) (k : Nat) : (wrs l k).length = k := by simp [wrs]
theorem wrs_succ (l : Nat → Ac) (k : Nat) : wrs l (k + 1) = wrs l k ++ [(m8 (l k).at_, (l k).p)] := by simp [wrs, List.range_succ]
end Go.Proofs.Ytmaaljfcnnlnpaa
