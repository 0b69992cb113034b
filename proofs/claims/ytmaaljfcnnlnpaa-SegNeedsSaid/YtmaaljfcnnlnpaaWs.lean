/-
  A region that draws its order, whose operations read and call: walked once, where the worlds that its callees leave are of a class that the caller names.
-/
import Derived.WalkKit
import Derived.BigQuiet
import Derived.Deep.QuietTactic
namespace Go.Proofs.Ytmaaljfcnnlnpaa
open Go.RowKit

/-- A world of a class. -/
structure WS (J : World → Prop) where
  w : World
  ok : J w

theorem wp_region_ws {P : Program} {id : Nat} {Q : Exit → Act → World → Prop} {a : Act} {w : World} {l : List Oper} (J : World → Prop) (hm : P.follows .mixedOrders = true) (hB : Region.lexB .any l.toArray = true) (h0 : J w.drew)
    (h : wpQuiet P l.toArray (fun w' => ∃ x : WS J, w' = x.w) (fun a' => ∀ w', (∃ x : WS J, w' = x.w) → Q .normal a' w') l a) : (Code.region id l.toArray true).wp P Q a w :=
  wp_region_quiet (C := fun w' => ∃ x : WS J, w' = x.w) hm hB ⟨⟨_, h0⟩, rfl⟩ (by simpa using h)

/-- A callee that leaves what was there as it was. -/
theorem ws_call {P : Program} {f : FuncId} {args : Array Value} {J : World → Prop} (hJ : ∀ W W', J W → Below W.heap.size W W' → J W') {x : WS J} {v : Value}
    (h : Calls P f args x.w fun e w' => e = .returned v ∧ Below x.w.heap.size x.w w') : Calls P f args x.w fun e w'' => e = .returned v ∧ ∃ y : WS J, w'' = y.w :=
  h.mono fun _ _ ⟨he, hw⟩ => ⟨he, ⟨_, hJ _ _ x.ok hw⟩, rfl⟩

/-- A callee that changes nothing. -/
theorem ws_same {P : Program} {f : FuncId} {args : Array Value} {J : World → Prop} {x : WS J} {v : Value}
    (h : Calls P f args x.w fun e w' => e = .returned v ∧ x.w = w') : Calls P f args x.w fun e w'' => e = .returned v ∧ ∃ y : WS J, w'' = y.w :=
  h.mono fun _ _ ⟨he, hw⟩ => ⟨he, x, hw.symm⟩
end Go.Proofs.Ytmaaljfcnnlnpaa
