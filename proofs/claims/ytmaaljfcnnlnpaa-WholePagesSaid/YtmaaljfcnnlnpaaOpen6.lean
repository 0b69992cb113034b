/-
  How an entry among the arguments is opened.
-/
import Derived.Test.YtmaaljfcnnlnpaaOpen3
namespace Go.Proofs.Ytmaaljfcnnlnpaa
open Go.RowKit Go.ChangeShapes Go.WideShapes

theorem cells47 : Try.prog.cellsOf 47 = 3 := by kernel_rfl
/-- An argument that is an entry. -/
def EnArg (v : Value) : Prop := ∃ (k : Int) (st : Nat) (L : List UInt8), v = .agg #[.int .i64 k, .int .u32 st, .string ⟨L.toArray⟩] ∧ st < 4294967296 ∧ L.length ≤ maxLen

theorem array3 {α : Type} {cs : Array α} (h : cs.size = 3) : ∃ c0 c1 c2, cs = #[c0, c1, c2] := by
  obtain ⟨l⟩ := cs
  match l, h with
  | [c0, c1, c2], _ => exact ⟨c0, c1, c2, rfl⟩

set_option maxRecDepth 100000 in
theorem open_entry47 {H : Type} {enc : TypeId × Value → H} {W : World} {base : Nat} {v : Value} {d : DataW H} {ps : List MemPlace} (hok : Value.okWide Try.prog W .any base 47 v)
    (h : DataW.Trod enc Try.prog W 0 (fun _ => true) true 47 v d ps) : EnArg v := by
  obtain ⟨cs, rfl, hsz⟩ := okWide_struct Try.underlying47 hok
  obtain ⟨c0, c1, c2, rfl⟩ := array3 (hsz.trans cells47)
  obtain ⟨fuel, hf⟩ := h
  obtain ⟨xs, n, _, _, hl, hlen, hg⟩ := DataW.trod_struct Try.underlying47 hf
  have g0 := hg 0 _ rfl
  have g1 := hg 1 _ rfl
  have g2 := hg 2 _ rfl
  simp only [Value.cells] at g0 g1 g2
  match xs, hlen with
  | [y0, y1, y2], _ =>
    obtain ⟨a0, e0, _, w0⟩ := DataW.trod_int Try.underlying3 g0
    obtain ⟨a1, e1, _, w1⟩ := DataW.trod_int Try.underlying23 g1
    obtain ⟨a2, e2, _, w2⟩ := DataW.trod_string Try.underlying9 g2
    obtain rfl : c0 = _ := List.head_eq_of_cons_eq e0
    obtain rfl : c1 = _ := List.head_eq_of_cons_eq e1
    obtain rfl : c2 = _ := List.head_eq_of_cons_eq e2
    obtain ⟨n1, rfl, b1⟩ := nat_of_u32 w1
    exact ⟨a0, n1, a2.data.toList, by simp, b1, by rw [Array.length_toList]; exact w2⟩
end Go.Proofs.Ytmaaljfcnnlnpaa
