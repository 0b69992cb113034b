/-
  How a row of acts, and a row of booleans, among the arguments are opened.
-/
import Derived.Test.YtmaaljfcnnlnpaaOpen3
import Derived.Test.YtmaaljfcnnlnpaaDiskWalk6
import Derived.Deep.Grids
import Derived.Deep.Slices
namespace Go.Proofs.Ytmaaljfcnnlnpaa
open Go.RowKit Go.ChangeShapes Go.WideShapes Go.Deep

/-- An act. -/
structure Ac where
  act : Nat
  at_ : Int
  p : List UInt8
  kv : Value
  kn : Nat
  ks : Nat → Bool

/-- An act in memory. -/
structure AcAt (W : World) (b o : Nat) (a : Ac) : Prop where
  c0 : W.cell? ⟨b, o, none⟩ = some (.int .u8 a.act)
  c1 : W.cell? ⟨b, o + 1, none⟩ = some (.int .i64 a.at_)
  c2 : W.rangeAt b (o + 2) (a.p.map bv)
  c3 : W.cell? ⟨b, o + 66, none⟩ = some a.kv
  keep : KeepAt W a.kv a.kn a.ks
  act : a.act < 256
  at1 : -9223372036854775808 ≤ a.at_
  at2 : a.at_ ≤ 9223372036854775807
  len : a.p.length = 64
  kn : a.kn ≤ maxLen

/-- A row of acts. -/
def AcsAt (W : World) (v : Value) (n : Nat) (l : Nat → Ac) : Prop :=
  ∃ (a : Option Addr) (cap : Nat), v = .slice a n cap ∧ n ≤ maxLen ∧ (n = 0 ∨ ∃ b o, a = some ⟨b, o, none⟩ ∧ ∀ i, i < n → AcAt W b (o + i * 67) (l i))

theorem cellLt {w : World} {a : Addr} {v : Value} (h : w.cell? a = some v) : a.block < w.heap.size := by
  unfold World.cell? at h
  split at h
  · rename_i h2
    exact (Array.getElem?_eq_some_iff.1 h2).1
  · cases h

/-- A cell whose block is not turned. -/
theorem cell_below {W W' : World} {a : Addr} {v : Value} (h : W.cell? a = some v) (hb : Below W.heap.size W W') : W'.cell? a = some v := (hb.cell (cellLt h)).trans h

theorem KeepAt.below {W W' : World} {kv : Value} {n : Nat} {ks : Nat → Bool} (h : KeepAt W kv n ks) (hb : Below W.heap.size W W') : KeepAt W' kv n ks := by
  obtain ⟨a, cap, rfl, h⟩ := h
  exact ⟨a, cap, rfl, h.imp id fun ⟨b, o, e, h⟩ => ⟨b, o, e, fun i hi => cell_below (h i hi) hb⟩⟩

theorem AcAt.below {W W' : World} {b o : Nat} {a : Ac} (h : AcAt W b o a) (hb : Below W.heap.size W W') : AcAt W' b o a :=
  ⟨cell_below h.c0 hb, cell_below h.c1 hb, fun j v hv => cell_below (h.c2 j v hv) hb, cell_below h.c3 hb, h.keep.below hb, h.act, h.at1, h.at2, h.len, h.kn⟩

theorem AcsAt.below {W W' : World} {v : Value} {n : Nat} {l : Nat → Ac} (h : AcsAt W v n l) (hb : Below W.heap.size W W') : AcsAt W' v n l := by
  obtain ⟨a, cap, rfl, hn, h⟩ := h
  exact ⟨a, cap, rfl, hn, h.imp id fun ⟨b, o, e, h⟩ => ⟨b, o, e, fun i hi => (h i hi).below hb⟩⟩

def KeepArg (W : World) (v : Value) : Prop := ∃ n ks, KeepAt W v n ks ∧ n ≤ maxLen
def AcsArg (W : World) (v : Value) : Prop := ∃ n l, AcsAt W v n l

set_option maxRecDepth 100000 in
theorem open_keep' {H : Type} {enc : TypeId × Value → H} {W : World} {fuel : Nat} {cs : List Value} {x : DataW H × List MemPlace}
    (h : DataW.trod enc Try.prog W 0 (fun _ => true) true fuel 75 cs = some x) : ∃ v, cs = [v] ∧ KeepArg W v := by
  rcases open_bools Try.underlying75 Try.underlying4 (by kernel_rfl) h with ⟨rfl, _⟩ | ⟨a, len, cap, B, rfl, _, hl, hm, _, hc⟩
  · exact ⟨_, rfl, 0, fun _ => false, KeepAt.empty _ _, Nat.zero_le _⟩
  · refine ⟨_, rfl, len, B, ⟨some a, cap, rfl, ?_⟩, by omega⟩
    by_cases h0 : len = 0
    · exact .inl h0
    · right
      have hspot : a.spot = none := by
        have := World.cell?_spot (hc 0 (by omega))
        simpa [Addr.add] using this
      obtain ⟨b, o, sp⟩ := a
      obtain rfl : sp = none := hspot
      exact ⟨b, o, rfl, fun i hi => by
        have := hc i (by omega)
        rwa [addr_add] at this⟩

set_option maxRecDepth 100000 in
theorem open_keep75 {H : Type} {enc : TypeId × Value → H} {W : World} {base : Nat} {v : Value} {d : DataW H} {ps : List MemPlace} (hok : Value.okWide Try.prog W .any base 75 v)
    (h : DataW.Trod enc Try.prog W 0 (fun _ => true) true 75 v d ps) : KeepArg W v := by
  obtain ⟨a0, len, cap, rfl⟩ := okWide_slice Try.underlying75 hok
  obtain ⟨fuel, hf⟩ := h
  obtain ⟨v, e, hk⟩ := open_keep' hf
  obtain rfl : _ = v := List.head_eq_of_cons_eq e
  exact hk

set_option maxRecDepth 100000 in
/-- Sixty-four bytes. -/
theorem open_bytes' {H : Type} {enc : TypeId × Value → H} {W : World} {fuel : Nat} {cs : List Value} {x : DataW H × List MemPlace}
    (hf : DataW.trod enc Try.prog W 0 (fun _ => true) true fuel 56 cs = some x) : ∃ bs : List UInt8, bs.length = 64 ∧ cs = bs.map bv := by
  obtain ⟨xs, m, _, _, hl, hlen, hg⟩ := DataW.trod_array Try.underlying56 hf
  have hsz : cs.length = 64 := by rw [hl]; exact (by kernel_rfl : Try.prog.cellsOf 56 = 64)
  have hb : ∀ i (hi : i < 64), ∃ b : UInt8, cs[i]? = some (bv b) := fun i hi => by
    have g := hg i hi
    rw [cells5, Nat.mul_one] at g
    have hx : xs[i]? = some xs[i] := List.getElem?_eq_getElem (by omega)
    rw [hx] at g
    obtain ⟨a, e, _, w⟩ := DataW.trod_int Try.underlying5 g
    obtain ⟨n, rfl, hn⟩ := nat_of_u8 w
    refine ⟨UInt8.ofNat n, ?_⟩
    rw [List.drop_eq_getElem_cons (by omega)] at e
    simp only [List.take_succ_cons, List.take_zero, List.cons.injEq, and_true] at e
    rw [List.getElem?_eq_getElem (by omega), e]
    have : (UInt8.ofNat n).toNat = n := by simp; omega
    unfold bv
    rw [this]
  have hbs : ∀ k, k ≤ 64 → ∃ bs : List UInt8, bs.length = k ∧ cs.take k = bs.map bv := by
    intro k
    induction k with
    | zero => exact fun _ => ⟨[], rfl, by simp⟩
    | succ k ih =>
      intro hk
      obtain ⟨bs, h1, h2⟩ := ih (by omega)
      obtain ⟨b, hb⟩ := hb k (by omega)
      refine ⟨bs ++ [b], by simp [h1], ?_⟩
      rw [List.take_add_one, h2, hb]
      simp
  obtain ⟨bs, h1, h2⟩ := hbs 64 (Nat.le_refl _)
  refine ⟨bs, h1, ?_⟩
  rwa [List.take_of_length_le (by omega)] at h2

theorem cells82 : Try.prog.cellsOf 82 = 67 := by kernel_rfl
theorem cells56 : Try.prog.cellsOf 56 = 64 := by kernel_rfl
theorem cells75 : Try.prog.cellsOf 75 = 1 := by kernel_rfl

theorem take1_drop {α : Type} {cs : List α} {i : Nat} {v : α} (h : (cs.drop i).take 1 = [v]) : cs[i]? = some v := by
  have := congrArg (fun l => l[0]?) h
  simpa using this

set_option maxRecDepth 100000 in
theorem open_act {H : Type} {enc : TypeId × Value → H} {W : World} {fuel : Nat} {cs : List Value} {x : DataW H × List MemPlace} {b o : Nat} (hc : ∀ i, i < 67 → W.cell? ⟨b, o + i, none⟩ = cs[i]?)
    (hf : DataW.trod enc Try.prog W 0 (fun _ => true) true fuel 82 cs = some x) : ∃ a, AcAt W b o a := by
  obtain ⟨xs, n, _, _, hl, hlen, hg⟩ := DataW.trod_struct Try.underlying82 hf
  have g0 : DataW.trod enc Try.prog W 0 (fun _ => true) true n 5 ((cs.drop 0).take (Try.prog.cellsOf 5)) = xs[0]? := hg 0 _ rfl
  have g1 : DataW.trod enc Try.prog W 0 (fun _ => true) true n 3 ((cs.drop 1).take (Try.prog.cellsOf 3)) = xs[1]? := hg 1 _ rfl
  have g2 : DataW.trod enc Try.prog W 0 (fun _ => true) true n 56 ((cs.drop 2).take (Try.prog.cellsOf 56)) = xs[2]? := hg 2 _ rfl
  have g3 : DataW.trod enc Try.prog W 0 (fun _ => true) true n 75 ((cs.drop 66).take (Try.prog.cellsOf 75)) = xs[3]? := hg 3 _ rfl
  rw [cells5] at g0
  rw [cells3] at g1
  rw [cells56] at g2
  rw [cells75] at g3
  match xs, hlen with
  | [y0, y1, y2, y3], _ =>
    obtain ⟨a0, e0, _, w0⟩ := DataW.trod_int Try.underlying5 g0
    obtain ⟨a1, e1, _, w1⟩ := DataW.trod_int Try.underlying3 g1
    obtain ⟨bs, h1, e2⟩ := open_bytes' g2
    obtain ⟨kv, e3, kn, ks, hk, hm⟩ := open_keep' g3
    obtain ⟨n0, rfl, b0⟩ := nat_of_u8 w0
    have f0 := take1_drop e0
    have f1 := take1_drop e1
    have f3 := take1_drop e3
    simp [Lit.wf, IntKind.min, IntKind.max, IntKind.signed, IntKind.bits] at w1
    refine ⟨⟨n0, a1, bs, kv, kn, ks⟩, (hc 0 (by decide)).trans f0, (hc 1 (by decide)).trans f1, fun j v hv => ?_, (hc 66 (by decide)).trans f3, hk, b0, w1.1, w1.2, h1, hm⟩
    have hj : j < 64 := by
      have := (List.getElem?_eq_some_iff.1 hv).1
      simpa [h1] using this
    rw [Nat.add_assoc, hc (2 + j) (by omega)]
    have : ((cs.drop 2).take 64)[j]? = some v := by rw [show (cs.drop 2).take 64 = bs.map bv from e2]; exact hv
    rw [List.getElem?_take_of_lt hj, List.getElem?_drop] at this
    exact this

theorem choose_fin {α : Type} (d : α) {n : Nat} {p : Nat → α → Prop} (h : ∀ i, i < n → ∃ a, p i a) : ∃ f : Nat → α, ∀ i, i < n → p i (f i) := by
  classical
  exact ⟨fun i => if hi : i < n then Classical.choose (h i hi) else d, fun i hi => by
    simp only [dif_pos hi]
    exact Classical.choose_spec (h i hi)⟩

set_option maxRecDepth 100000 in
theorem open_acts74 {H : Type} {enc : TypeId × Value → H} {W : World} {base : Nat} {v : Value} {d : DataW H} {ps : List MemPlace} (hok : Value.okWide Try.prog W .any base 74 v)
    (h : DataW.Trod enc Try.prog W 0 (fun _ => true) true 74 v d ps) : AcsArg W v := by
  obtain ⟨a0, len, cap, rfl⟩ := okWide_slice Try.underlying74 hok
  obtain ⟨fuel, hf⟩ := h
  have d0 : Ac := ⟨0, 0, [], .slice none 0 0, 0, fun _ => false⟩
  rcases open_slice Try.underlying74 hf with ⟨hcs, _⟩ | ⟨a, len', cap', m, n, D, Pl, hcs, _, hl, hm, hmm, _, hel⟩
  · obtain ⟨rfl, rfl, rfl⟩ : a0 = none ∧ len = 0 ∧ cap = 0 := by simpa [Value.cells] using hcs
    exact ⟨0, fun _ => d0, none, 0, rfl, Nat.zero_le _, .inl rfl⟩
  · obtain ⟨rfl, rfl, rfl⟩ : a0 = some a ∧ len = len' ∧ cap = cap' := by simpa [Value.cells] using hcs
    simp only [if_true] at hmm
    subst hmm
    by_cases h0 : len = 0
    · subst h0
      exact ⟨0, fun _ => d0, _, _, rfl, Nat.zero_le _, .inl rfl⟩
    · have hspot : a.spot = none := by
        obtain ⟨cs', h1, _⟩ := hel 0 (by omega)
        rw [cells82] at h1
        obtain ⟨_, h2, h3⟩ := World.cells?_some h1
        have h4 := h3 0 (by omega)
        rw [List.getElem?_eq_getElem (by omega)] at h4
        have := World.cell?_spot h4
        simpa [Addr.add] using this
      obtain ⟨b, o, sp⟩ := a
      obtain rfl : sp = none := hspot
      obtain ⟨l, hl2⟩ := choose_fin d0 (n := len) (p := fun i a => AcAt W b (o + i * 67) a) (fun i hi => by
        obtain ⟨cs', h1, h2⟩ := hel i (by omega)
        rw [cells82] at h1
        obtain ⟨_, _, h3⟩ := World.cells?_some h1
        exact open_act (fun j hj => by
          have := h3 j hj
          rwa [addr_add, addr_add] at this) h2)
      exact ⟨len, l, _, _, rfl, by omega, .inr ⟨b, o, rfl, hl2⟩⟩
end Go.Proofs.Ytmaaljfcnnlnpaa

namespace Go.Proofs.Ytmaaljfcnnlnpaa
open Go.RowKit Go.ChangeShapes Go.WideShapes Go.Deep Go.ChangeAt
open Go.ChangeMaps (open_string)

/-- An act. -/
structure Sa where
  act : Nat
  text : ByteArray
  kv : Value
  kn : Nat
  ks : Nat → Bool
  n : Nat

/-- An act in memory. -/
structure SaAt (W : World) (b o : Nat) (a : Sa) : Prop where
  c0 : W.cell? ⟨b, o, none⟩ = some (.int .u8 a.act)
  c1 : W.cell? ⟨b, o + 1, none⟩ = some (.string a.text)
  c2 : W.cell? ⟨b, o + 2, none⟩ = some a.kv
  c3 : W.cell? ⟨b, o + 3, none⟩ = some (.int .u8 a.n)
  keep : KeepAt W a.kv a.kn a.ks
  act : a.act < 256
  n : a.n < 256
  kn : a.kn ≤ maxLen
  text : a.text.size ≤ maxLen

/-- A row of acts. -/
def SasAt (W : World) (v : Value) (n : Nat) (l : Nat → Sa) : Prop :=
  ∃ (a : Option Addr) (cap : Nat), v = .slice a n cap ∧ n ≤ maxLen ∧ (n = 0 ∨ ∃ b o, a = some ⟨b, o, none⟩ ∧ ∀ i, i < n → SaAt W b (o + i * 4) (l i))

theorem SaAt.below {W W' : World} {b o : Nat} {a : Sa} (h : SaAt W b o a) (hb : Below W.heap.size W W') : SaAt W' b o a :=
  ⟨cell_below h.c0 hb, cell_below h.c1 hb, cell_below h.c2 hb, cell_below h.c3 hb, h.keep.below hb, h.act, h.n, h.kn, h.text⟩
theorem SasAt.below {W W' : World} {v : Value} {n : Nat} {l : Nat → Sa} (h : SasAt W v n l) (hb : Below W.heap.size W W') : SasAt W' v n l := by
  obtain ⟨a, cap, rfl, hn, h⟩ := h
  exact ⟨a, cap, rfl, hn, h.imp id fun ⟨b, o, e, h⟩ => ⟨b, o, e, fun i hi => (h i hi).below hb⟩⟩

def SasArg (W : World) (v : Value) : Prop := ∃ n l, SasAt W v n l

theorem cells125 : Try.prog.cellsOf 125 = 4 := by kernel_rfl
theorem cells9' : Try.prog.cellsOf 9 = 1 := by kernel_rfl

set_option maxRecDepth 100000 in
theorem open_sact {H : Type} {enc : TypeId × Value → H} {W : World} {fuel : Nat} {cs : List Value} {x : DataW H × List MemPlace} {b o : Nat} (hc : ∀ i, i < 4 → W.cell? ⟨b, o + i, none⟩ = cs[i]?)
    (hf : DataW.trod enc Try.prog W 0 (fun _ => true) true fuel 125 cs = some x) : ∃ a, SaAt W b o a := by
  obtain ⟨xs, n, _, _, hl, hlen, hg⟩ := DataW.trod_struct Try.underlying125 hf
  have g0 : DataW.trod enc Try.prog W 0 (fun _ => true) true n 5 ((cs.drop 0).take (Try.prog.cellsOf 5)) = xs[0]? := hg 0 _ rfl
  have g1 : DataW.trod enc Try.prog W 0 (fun _ => true) true n 9 ((cs.drop 1).take (Try.prog.cellsOf 9)) = xs[1]? := hg 1 _ rfl
  have g2 : DataW.trod enc Try.prog W 0 (fun _ => true) true n 75 ((cs.drop 2).take (Try.prog.cellsOf 75)) = xs[2]? := hg 2 _ rfl
  have g3 : DataW.trod enc Try.prog W 0 (fun _ => true) true n 5 ((cs.drop 3).take (Try.prog.cellsOf 5)) = xs[3]? := hg 3 _ rfl
  rw [cells5] at g0 g3
  rw [cells9'] at g1
  rw [cells75] at g2
  match xs, hlen with
  | [y0, y1, y2, y3], _ =>
    obtain ⟨a0, e0, _, w0⟩ := DataW.trod_int Try.underlying5 g0
    obtain ⟨s1, e1, _, w1⟩ := DataW.trod_string Try.underlying9 g1
    obtain ⟨kv, e2, kn, ks, hk, hm⟩ := open_keep' g2
    obtain ⟨a3, e3, _, w3⟩ := DataW.trod_int Try.underlying5 g3
    obtain ⟨n0, rfl, b0⟩ := nat_of_u8 w0
    obtain ⟨n3, rfl, b3⟩ := nat_of_u8 w3
    have f0 := take1_drop e0
    have f1 := take1_drop e1
    have f2 := take1_drop e2
    have f3 := take1_drop e3
    exact ⟨⟨n0, s1, kv, kn, ks, n3⟩, (hc 0 (by decide)).trans f0, (hc 1 (by decide)).trans f1, (hc 2 (by decide)).trans f2, (hc 3 (by decide)).trans f3, hk, b0, b3, hm, w1⟩

set_option maxRecDepth 100000 in
theorem open_acts122 {H : Type} {enc : TypeId × Value → H} {W : World} {base : Nat} {v : Value} {d : DataW H} {ps : List MemPlace} (hok : Value.okWide Try.prog W .any base 122 v)
    (h : DataW.Trod enc Try.prog W 0 (fun _ => true) true 122 v d ps) : SasArg W v := by
  obtain ⟨a0, len, cap, rfl⟩ := okWide_slice Try.underlying122 hok
  obtain ⟨fuel, hf⟩ := h
  have d0 : Sa := ⟨0, ByteArray.empty, .slice none 0 0, 0, fun _ => false, 0⟩
  rcases open_slice Try.underlying122 hf with ⟨hcs, _⟩ | ⟨a, len', cap', m, n, D, Pl, hcs, _, hl, hm, hmm, _, hel⟩
  · obtain ⟨rfl, rfl, rfl⟩ : a0 = none ∧ len = 0 ∧ cap = 0 := by simpa [Value.cells] using hcs
    exact ⟨0, fun _ => d0, none, 0, rfl, Nat.zero_le _, .inl rfl⟩
  · obtain ⟨rfl, rfl, rfl⟩ : a0 = some a ∧ len = len' ∧ cap = cap' := by simpa [Value.cells] using hcs
    simp only [if_true] at hmm
    subst hmm
    by_cases h0 : len = 0
    · subst h0
      exact ⟨0, fun _ => d0, _, _, rfl, Nat.zero_le _, .inl rfl⟩
    · have hspot : a.spot = none := by
        obtain ⟨cs', h1, _⟩ := hel 0 (by omega)
        rw [cells125] at h1
        obtain ⟨_, h2, h3⟩ := World.cells?_some h1
        have h4 := h3 0 (by omega)
        rw [List.getElem?_eq_getElem (by omega)] at h4
        have := World.cell?_spot h4
        simpa [Addr.add] using this
      obtain ⟨b, o, sp⟩ := a
      obtain rfl : sp = none := hspot
      obtain ⟨l, hl2⟩ := choose_fin d0 (n := len) (p := fun i a => SaAt W b (o + i * 4) a) (fun i hi => by
        obtain ⟨cs', h1, h2⟩ := hel i (by omega)
        rw [cells125] at h1
        obtain ⟨_, _, h3⟩ := World.cells?_some h1
        exact open_sact (fun j hj => by
          have := h3 j hj
          rwa [addr_add, addr_add] at this) h2)
      exact ⟨len, l, _, _, rfl, by omega, .inr ⟨b, o, rfl, hl2⟩⟩
end Go.Proofs.Ytmaaljfcnnlnpaa
