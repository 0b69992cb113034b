/-
  How a row of strings among the arguments is opened.
-/
import Derived.Test.YtmaaljfcnnlnpaaFragLaw4
import Derived.SliceStrings
namespace Go.Proofs.Ytmaaljfcnnlnpaa
open Go.RowKit Go.ChangeShapes Go.WideShapes

/-- An argument that is a row of strings. -/
def StrsArg (W : World) (v : Value) : Prop :=
  (∃ a cap, v = .slice a 0 cap) ∨ ∃ b o n cap ss, v = .slice (some ⟨b, o, none⟩) n cap ∧ 0 < n ∧ n ≤ maxLen ∧ StrsAt W b o n ss

set_option maxRecDepth 100000 in
theorem open_strs71 {H : Type} {enc : TypeId × Value → H} {W : World} {base : Nat} {v : Value} {d : DataW H} {ps : List MemPlace} (hok : Value.okWide Try.prog W .any base 71 v)
    (h : DataW.Trod enc Try.prog W 0 (fun _ => true) true 71 v d ps) : StrsArg W v := by
  obtain ⟨a0, len, cap, rfl⟩ := okWide_slice Try.underlying71 hok
  obtain ⟨fuel, hf⟩ := h
  rcases open_strings Try.underlying71 Try.underlying9 (by kernel_rfl) hf with ⟨hcs, hx⟩ | ⟨a, len', cap', ss, hcs, _, hl, hm, hz, hx, hcell, hsz⟩
  · left
    obtain ⟨rfl, rfl, rfl⟩ : a0 = none ∧ len = 0 ∧ cap = 0 := by simpa [Value.cells] using hcs
    exact ⟨none, 0, rfl⟩
  · obtain ⟨rfl, rfl, rfl⟩ : a0 = some a ∧ len = len' ∧ cap = cap' := by simpa [Value.cells] using hcs
    by_cases h0 : len = 0
    · subst h0
      exact .inl ⟨_, _, rfl⟩
    · right
      have hlen : len ≤ ss.length := by rw [hz]; simpa using hl
      have hspot : a.spot = none := by
        have := World.cell?_spot (hcell 0 (by omega))
        simpa [Addr.add] using this
      obtain ⟨b, o, sp⟩ := a
      obtain rfl : sp = none := hspot
      refine ⟨b, o, len, cap, fun i => ss.getD i ByteArray.empty, rfl, by omega, by omega, fun i hi => ⟨?_, ?_⟩⟩
      · have := hcell i (by omega)
        rwa [addr_add] at this
      · show (ss.getD i ByteArray.empty).size ≤ maxLen
        rw [List.getD_eq_getElem?_getD, List.getElem?_eq_getElem (by omega)]
        exact hsz _ (List.getElem_mem _)

set_option maxRecDepth 100000 in
theorem fragRow_walk (ep : Nat) (v : Value) (W : World) (h : StrsArg W v) :
    Calls Try.prog 12 #[.int .u32 ep, v] W fun e w' => e = .returned (.bool true) ∧ Below W.heap.size W w' := by
  rcases h with ⟨a, cap, rfl⟩ | ⟨b, o, n, cap, ss, rfl, hn, hm, hs⟩
  · exact fragRow_none ep a cap W
  · exact fragRow_some ep b o n cap ss hn hm W hs
end Go.Proofs.Ytmaaljfcnnlnpaa
