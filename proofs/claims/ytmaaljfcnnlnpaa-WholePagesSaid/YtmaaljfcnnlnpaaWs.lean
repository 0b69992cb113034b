/-
  A region that draws its order, whose operations read and call: walked once, where the worlds that its callees leave are of a class that the caller names.
-/
import Derived.WalkKit
import Derived.BigQuiet
import Derived.Deep.QuietTactic
import Derived.StillTail
namespace Go.Proofs.Ytmaaljfcnnlnpaa
open Go.RowKit

/-- A world of a class. -/
structure WS (J : World → Prop) where
  w : World
  ok : J w

theorem wp_region_ws {P : Program} {id : Nat} {Q : Exit → Act → World → Prop} {a : Act} {w : World} {l : List Oper} (J : World → Prop) (hm : P.follows .mixedOrders = true) (hB : Region.lexB .any l.toArray = true) (h0 : J w.drew)
    (h : wpQuiet P l.toArray (fun w' => ∃ x : WS J, w' = x.w) (fun a' => ∀ w', (∃ x : WS J, w' = x.w) → Q .normal a' w') l a) : (Code.region id l.toArray true).wp P Q a w :=
  wp_region_quiet (C := fun w' => ∃ x : WS J, w' = x.w) hm hB ⟨⟨_, h0⟩, rfl⟩ (by simpa using h)

/-- A callee that leaves what was there as it was. -/
theorem ws_call {P : Program} {f : FuncId} {args : Array Value} {J : World → Prop} (hJ : ∀ W W', J W → Below W.heap.size W W' → J W') {x : WS J} {v : Value}
    (h : Calls P f args x.w fun e w' => e = .returned v ∧ Below x.w.heap.size x.w w') : Calls P f args x.w fun e w'' => e = .returned v ∧ ∃ y : WS J, w'' = y.w :=
  h.mono fun _ _ ⟨he, hw⟩ => ⟨he, ⟨_, hJ _ _ x.ok hw⟩, rfl⟩

/-- A callee that changes nothing. -/
theorem ws_same {P : Program} {f : FuncId} {args : Array Value} {J : World → Prop} {x : WS J} {v : Value}
    (h : Calls P f args x.w fun e w' => e = .returned v ∧ x.w = w') : Calls P f args x.w fun e w'' => e = .returned v ∧ ∃ y : WS J, w'' = y.w :=
  h.mono fun _ _ ⟨he, hw⟩ => ⟨he, x, hw.symm⟩
end Go.Proofs.Ytmaaljfcnnlnpaa

namespace Go.Proofs.Ytmaaljfcnnlnpaa
open Go.RowKit

section
variable {P : Program} {ops : Array Oper} {md : Region.Mode} {C : World → Prop}

/-- Of the head's operations, whichever comes up; L where all of them have. -/
def headQ (P : Program) (md : Region.Mode) (ops : Array Oper) (C : World → Prop) (n : Nat) (L : Array Bool → Act → Prop) : Nat → Array Bool → Act → Prop
  | 0, listed, a => L listed a
  | f + 1, listed, a => Region.ready md ops listed ≠ [] ∧ ∀ i ∈ Region.ready md ops listed, i < n ∧ qOp P ops C i (headQ P md ops C n L f (listed.setIfInBounds i true)) a

theorem any_of_headQ {n g : Nat} {L : Array Bool → Act → Prop} {Q : Exit → Act → World → Prop} (hL : ∀ listed a w, C w → L listed a → wpAny P md ops Q g listed a w) :
    ∀ (f : Nat) (listed : Array Bool) (a : Act) (w : World), C w → headQ P md ops C n L f listed a → wpAny P md ops Q (f + g) listed a w
  | 0, listed, a, w, hw, h => by
    rw [Nat.zero_add]
    exact hL _ _ _ hw h
  | f + 1, listed, a, w, hw, h => by
    rw [Nat.add_right_comm]
    exact ⟨fun h0 => absurd h0 h.1, fun i hi => wpOp_of_qOp hw (fun a' w' hw' h' => any_of_headQ hL f _ a' w' hw' h') (h.2 i hi).2⟩

/-- While one of the head is still to come, none of the end may. -/
theorem below_end {n i j : Nat} {listed : Array Bool} (hs : Region.sinkB md ops n = true) (hc : Region.chainB md ops n = true) (hn : n < ops.size) (inv : HeadInv md ops n listed) (hin : i < n)
    (hi : i ∈ Region.ready md ops listed) (hj : j ∈ Region.ready md ops listed) : j < n := by
  rcases Nat.lt_or_ge j n with h | h
  · exact h
  · exact absurd hj (tail_waits hs hc hn inv _ i rfl hin (mem_ready.1 hi).1 j h)

/-- What may come up and yields its value in every world of the class may be taken first. -/
theorem headQ_take {n i : Nat} {oi : Oper} {v : Value} {L : Array Bool → Act → Prop} (hoi : ops[i]? = some oi) (hsel : Region.noSelect ops = true)
    (hs : Region.sinkB md ops n = true) (hc : Region.chainB md ops n = true) (hn : n < ops.size) (hin : i < n)
    (hend : ∀ listed a, L listed a → ∀ j ∈ Region.ready md ops listed, n ≤ j) :
    ∀ (f : Nat) (listed : Array Bool) (a : Act), HeadInv md ops n listed →
      (∀ j oj, ops[j]? = some oj → j ≠ i → listed.getD j true = false → (∀ e ∈ oj.after, Region.binds md e = true → e.on ≠ i) → oi.apart ops oj = true) →
      i ∈ Region.ready md ops listed → YieldsIn P ops C oi v a →
      headQ P md ops C n L f (listed.setIfInBounds i true) (a.put oi.dst v) → headQ P md ops C n L (f + 1) listed a := by
  have sel := Region.noSelect_spec hsel
  intro f
  induction f with
  | zero =>
    intro listed a inv _ hr hy H
    refine ⟨List.ne_nil_of_mem hr, fun j hj => ⟨below_end hs hc hn inv hin hr hj, ?_⟩⟩
    rcases Nat.decEq j i with hji | hji
    · have h1 := hend _ _ H j (ready_mono hj hji)
      have h2 := below_end hs hc hn inv hin hr hj
      omega
    · subst hji
      exact hy.qOp hoi H
  | succ f ih =>
    intro listed a inv hap hr hy H
    refine ⟨List.ne_nil_of_mem hr, fun j hj => ⟨below_end hs hc hn inv hin hr hj, ?_⟩⟩
    rcases Nat.decEq j i with hji | hji
    · obtain ⟨hjun, oj, hoj, hall⟩ := mem_ready.1 hj
      have free : ∀ e ∈ oj.after, Region.binds md e = true → e.on ≠ i := fun e he hb heq => by
        have h1 := hall e he hb
        rw [heq, getD_both (mem_ready.1 hr).1] at h1
        cases h1
      have step := qOp_put hoj (hap j oj hoj hji hjun free) (fun cs b => sel i oi cs b hoi) (fun cs b => sel j oj cs b hoj) hy (H.2 j (ready_mono hj hji)).2
      refine qOp_mono (fun a' h => ?_) step
      refine ih (listed.setIfInBounds j true) a' (inv.set hj (below_end hs hc hn inv hin hr hj)) (fun k ok hk hki hun hno => hap k ok hk hki ?_ hno) (ready_mono hr (Ne.symm hji)) h.1 ?_
      · rcases Nat.decEq j k with hjk | hjk
        · rwa [getD_set_ne true hjk] at hun
        · exact hjk ▸ hjun
      · rw [Array.setIfInBounds_comm _ _ hji]
        exact h.2
    · subst hji
      exact hy.qOp hoi H

/-- The head in its lexical order. -/
theorem headQ_lex {n g : Nat} {Lq : Act → Prop} (hsel : Region.noSelect ops = true) (hs : Region.sinkB md ops n = true) (hc : Region.chainB md ops n = true) (hn : n < ops.size) :
    ∀ (l : List Oper) (k : Nat) (listed : Array Bool) (a : Act), (∀ j, j < l.length → l[j]? = ops[k + j]?) → k + l.length = n → HeadInv md ops n listed →
    Region.lexHead md ops g l.length k listed = true → wpQuiet P ops C Lq l a →
    headQ P md ops C n (fun listed' a' => Region.seqB md ops g n listed' = true ∧ Lq a') l.length listed a := by
  intro l
  induction l with
  | nil =>
    intro k listed a _ hk _ hB h
    obtain rfl : k = n := hk
    exact ⟨hB, h⟩
  | cons o l ih =>
    intro k listed a hl hk inv hB h
    have h0 : ops[k]? = some o := (hl 0 (Nat.zero_lt_succ _)).symm
    have hkn : k < n := by rw [← hk, List.length_cons]; omega
    rw [List.length_cons, Region.lexHead, Bool.and_eq_true, Bool.and_eq_true] at hB
    have hr : k ∈ Region.ready md ops listed := List.contains_iff_mem.1 hB.1.1
    have hq : qOp P ops C k (wpQuiet P ops C Lq l) a := by
      unfold qOp
      rw [h0]
      exact h
    obtain ⟨v, hy, hK⟩ := yieldsIn_of_qOp h0 hq
    refine headQ_take h0 hsel hs hc hn hkn (fun _ _ hL => seqB_ready hL.1) l.length listed a inv (Region.free_spec h0 hB.1.2) hr hy ?_
    refine ih (k + 1) _ _ (fun j hj => ?_) (by rw [← hk, List.length_cons]; omega) (inv.set hr hkn) hB.2 hK
    have := hl (j + 1) (Nat.succ_lt_succ hj)
    rw [List.getElem?_cons_succ] at this
    rw [this, Nat.add_assoc, Nat.add_comm 1 j]

/-- The whole: n operations of the head, walked with the class; then the rest as a list, from any world of the class. -/
theorem wp_region_ws_tail {id : Nat} {Q : Exit → Act → World → Prop} {a : Act} {w : World} {l : List Oper} (J : World → Prop) (n : Nat) (hm : P.follows .mixedOrders = true) (hB : Region.lexTailB .any l.toArray n = true) (h0 : J w.drew)
    (h : wpQuiet P l.toArray (fun w' => ∃ x : WS J, w' = x.w) (fun a' => ∀ w', J w' → wpList P l.toArray Q (l.drop n) a' w') (l.take n) a) : (Code.region id l.toArray true).wp P Q a w := by
  unfold Region.lexTailB at hB
  rw [Bool.and_eq_true, Bool.and_eq_true, Bool.and_eq_true, Bool.and_eq_true, decide_eq_true_eq] at hB
  obtain ⟨⟨⟨⟨hsel, hn⟩, hs⟩, hc⟩, hlex⟩ := hB
  have hlt : n < l.length := by simpa using hn
  have hlen : (l.take n).length = n := by rw [List.length_take]; omega
  have hrest : (l.drop n).length = l.toArray.size - n := by simp
  have inv : HeadInv .any l.toArray n (Array.replicate l.toArray.size false) :=
    ⟨Array.size_replicate, fun j _ _ hj => (by rw [getD_replicate_false] at hj; cases hj), fun t _ ht => getD_in (by rwa [Array.size_replicate]) (getD_replicate_false _ _)⟩
  have H := headQ_lex (md := .any) (g := l.toArray.size - n) hsel hs hc hn (l.take n) 0 _ a (fun j hj => by
    rw [hlen] at hj
    rw [List.getElem?_take_of_lt hj, Nat.zero_add]
    simp) (by rw [Nat.zero_add]; exact hlen) inv (by rw [hlen]; exact hlex) h
  refine wp_region_any hm ?_
  have R := any_of_headQ (Q := Q) (g := l.toArray.size - n) (fun listed a' w' hw' hL => by
    obtain ⟨x, rfl⟩ := hw'
    have := wpAny_of_seq (md := .any) (Q' := Q) (l.drop n) n listed a' x.w (fun j => by simp [List.getElem?_drop]) (by rw [hrest]; exact hL.1) (hL.2 x.w x.ok)
    rwa [hrest] at this) _ _ _ w.drew ⟨⟨_, h0⟩, rfl⟩ H
  rw [hlen, show n + (l.toArray.size - n) = l.toArray.size by omega] at R
  exact R
end
end Go.Proofs.Ytmaaljfcnnlnpaa
