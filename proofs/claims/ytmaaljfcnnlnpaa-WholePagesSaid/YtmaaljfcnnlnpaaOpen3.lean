/-
  How a page, and sixty-four bytes, among the arguments are opened.
-/
import Derived.Test.YtmaaljfcnnlnpaaPageMem
import Derived.Test.YtmaaljfcnnlnpaaOpen
import Derived.OpenShut
namespace Go.Proofs.Ytmaaljfcnnlnpaa
open Go.RowKit Go.ChangeShapes Go.WideShapes

theorem cells42 : Try.prog.cellsOf 42 = 6 := by kernel_rfl
theorem cells55 : Try.prog.cellsOf 55 = 64 := by kernel_rfl
theorem cells5 : Try.prog.cellsOf 5 = 1 := by kernel_rfl
theorem cells23 : Try.prog.cellsOf 23 = 1 := by kernel_rfl
theorem cells3 : Try.prog.cellsOf 3 = 1 := by kernel_rfl
theorem cells4 : Try.prog.cellsOf 4 = 1 := by kernel_rfl
theorem cells9 : Try.prog.cellsOf 9 = 1 := by kernel_rfl

/-- An argument that is a page. -/
def PgArg (v : Value) : Prop :=
  ∃ p : Pg, v = .agg #[.int .u32 p.ep, .int .u32 p.nu, .int .i64 p.ki, .bool p.fi, .bool p.la, .string ⟨p.da.toArray⟩] ∧ p.ep < 4294967296 ∧ p.nu < 4294967296 ∧ p.da.length ≤ maxLen ∧ -9223372036854775808 ≤ p.ki ∧ p.ki ≤ 9223372036854775807

theorem array6 {α : Type} {cs : Array α} (h : cs.size = 6) : ∃ c0 c1 c2 c3 c4 c5, cs = #[c0, c1, c2, c3, c4, c5] := by
  obtain ⟨l⟩ := cs
  match l, h with
  | [c0, c1, c2, c3, c4, c5], _ => exact ⟨c0, c1, c2, c3, c4, c5, rfl⟩

set_option maxRecDepth 100000 in
theorem open_page42 {H : Type} {enc : TypeId × Value → H} {W : World} {base : Nat} {v : Value} {d : DataW H} {ps : List MemPlace} (hok : Value.okWide Try.prog W .any base 42 v)
    (h : DataW.Trod enc Try.prog W 0 (fun _ => true) true 42 v d ps) : PgArg v := by
  obtain ⟨cs, rfl, hsz⟩ := okWide_struct Try.underlying42 hok
  obtain ⟨c0, c1, c2, c3, c4, c5, rfl⟩ := array6 (hsz.trans cells42)
  obtain ⟨fuel, hf⟩ := h
  obtain ⟨xs, n, _, _, hl, hlen, hg⟩ := DataW.trod_struct Try.underlying42 hf
  have g0 := hg 0 _ rfl
  have g1 := hg 1 _ rfl
  have g2 := hg 2 _ rfl
  have g3 := hg 3 _ rfl
  have g4 := hg 4 _ rfl
  have g5 := hg 5 _ rfl
  simp only [Value.cells] at g0 g1 g2 g3 g4 g5
  match xs, hlen with
  | [y0, y1, y2, y3, y4, y5], _ =>
    obtain ⟨a0, e0, _, w0⟩ := DataW.trod_int Try.underlying23 g0
    obtain ⟨a1, e1, _, w1⟩ := DataW.trod_int Try.underlying23 g1
    obtain ⟨a2, e2, _, w2⟩ := DataW.trod_int Try.underlying3 g2
    obtain ⟨a3, e3, _⟩ := DataW.trod_bool Try.underlying4 g3
    obtain ⟨a4, e4, _⟩ := DataW.trod_bool Try.underlying4 g4
    obtain ⟨a5, e5, _, w5⟩ := DataW.trod_string Try.underlying9 g5
    obtain rfl : c0 = _ := List.head_eq_of_cons_eq e0
    obtain rfl : c1 = _ := List.head_eq_of_cons_eq e1
    obtain rfl : c2 = _ := List.head_eq_of_cons_eq e2
    obtain rfl : c3 = _ := List.head_eq_of_cons_eq e3
    obtain rfl : c4 = _ := List.head_eq_of_cons_eq e4
    obtain rfl : c5 = _ := List.head_eq_of_cons_eq e5
    obtain ⟨n0, rfl, b0⟩ := nat_of_u32 w0
    obtain ⟨n1, rfl, b1⟩ := nat_of_u32 w1
    refine ⟨⟨n0, n1, a2, a3, a4, a5.data.toList⟩, by simp, b0, b1, by show a5.data.toList.length ≤ maxLen; rw [Array.length_toList]; exact w5, ?_⟩
    simp [Lit.wf, IntKind.min, IntKind.max, IntKind.signed, IntKind.bits] at w2
    exact w2

/-- An argument that is sixty-four bytes. -/
def BytesArg (v : Value) : Prop := ∃ bs : List UInt8, bs.length = 64 ∧ v = .agg (bs.map bv).toArray

set_option maxRecDepth 100000 in
theorem open_bytes55 {H : Type} {enc : TypeId × Value → H} {W : World} {base : Nat} {v : Value} {d : DataW H} {ps : List MemPlace} (hok : Value.okWide Try.prog W .any base 55 v)
    (h : DataW.Trod enc Try.prog W 0 (fun _ => true) true 55 v d ps) : BytesArg v := by
  have hcs : ∃ cs, v = .agg cs ∧ cs.size = 64 := by
    simp only [Value.okWide, Try.underlying55] at hok
    obtain ⟨cs, h1, h2, _⟩ := hok
    exact ⟨cs, h1, h2.trans cells55⟩
  obtain ⟨cs, rfl, hsz⟩ := hcs
  obtain ⟨fuel, hf⟩ := h
  obtain ⟨xs, m, _, _, hl, hlen, hg⟩ := DataW.trod_array Try.underlying55 hf
  have hb : ∀ i (hi : i < 64), ∃ b : UInt8, cs[i]? = some (bv b) := fun i hi => by
    have g := hg i hi
    rw [cells5, Nat.mul_one] at g
    have hx : xs[i]? = some xs[i] := List.getElem?_eq_getElem (by omega)
    rw [hx] at g
    obtain ⟨a, e, _, w⟩ := DataW.trod_int Try.underlying5 g
    obtain ⟨n, rfl, hn⟩ := nat_of_u8 w
    refine ⟨UInt8.ofNat n, ?_⟩
    have hd : (Value.agg cs).cells.toList.drop i = cs[i]'(by omega) :: (Value.agg cs).cells.toList.drop (i + 1) := by
      show cs.toList.drop i = cs[i]'(by omega) :: cs.toList.drop (i + 1)
      rw [List.drop_eq_getElem_cons (by rw [Array.length_toList]; omega)]
      simp
    rw [hd] at e
    simp only [List.take_succ_cons, List.take_zero, List.cons.injEq, and_true] at e
    rw [Array.getElem?_eq_getElem (by omega), e]
    have : (UInt8.ofNat n).toNat = n := by simp; omega
    unfold bv
    rw [this]
  have hbs : ∀ k, k ≤ 64 → ∃ bs : List UInt8, bs.length = k ∧ cs.toList.take k = bs.map bv := by
    intro k
    induction k with
    | zero => exact fun _ => ⟨[], rfl, by simp⟩
    | succ k ih =>
      intro hk
      obtain ⟨bs, h1, h2⟩ := ih (by omega)
      obtain ⟨b, hb⟩ := hb k (by omega)
      refine ⟨bs ++ [b], by simp [h1], ?_⟩
      have hb2 : cs.toList[k]? = some (bv b) := by simpa using hb
      rw [List.take_add_one, h2, hb2]
      simp
  obtain ⟨bs, h1, h2⟩ := hbs 64 (Nat.le_refl _)
  refine ⟨bs, h1, ?_⟩
  rw [List.take_of_length_le (by simp [hsz])] at h2
  rw [← h2]
end Go.Proofs.Ytmaaljfcnnlnpaa
