/-
  The closed facts about the loaded program that every row asks, proved once. The head's first words are cut off by a law, not by running over the whole text: so the kernel need not take the long text apart.
-/
import Derived.Test.YtmaaljfcnnlnpaaRows
import Derived.ProofKit
namespace Go.Proofs.Ytmaaljfcnnlnpaa
namespace Facts
def ch (l : List Nat) : List Char := l.map Char.ofNat
def w0 : List Char := ch [104, 97, 114, 110, 101, 115, 115]
def w1 : List Char := ch [97, 48, 51, 53, 57, 54, 49, 52, 98, 50, 101, 100, 57, 57, 98, 53, 100, 50, 98, 51, 49, 56, 98, 102, 101, 102, 50, 97, 101, 99, 54, 98, 100, 51, 49, 102, 55, 53, 53, 53, 48, 102, 57, 57, 101, 100, 48, 51, 54, 54, 100, 53, 50, 50, 48, 99, 52, 102, 56, 51, 101, 100, 57, 57]
def w2 : List Char := ch [99, 117, 116]
def rest : List Char := ch [
  97, 116, 32, 115, 112, 111, 111, 108, 47, 115, 112, 111, 111, 108, 108, 97, 119, 48, 50, 46, 67, 114, 99, 66, 117, 114, 115, 116, 115, 32,
  115, 112, 111, 111, 108, 47, 115, 112, 111, 111, 108, 108, 97, 119, 48, 50, 46, 67, 114, 99, 77, 111, 114, 101, 32, 115, 112, 111, 111, 108,
  47, 115, 112, 111, 111, 108, 108, 97, 119, 48, 50, 46, 67, 114, 99, 76, 105, 110, 101, 32, 115, 112, 111, 111, 108, 47, 115, 112, 111, 111,
  108, 108, 97, 119, 48, 50, 46, 67, 114, 99, 80, 108, 97, 121, 115, 32, 115, 112, 111, 111, 108, 47, 115, 112, 111, 111, 108, 108, 97, 119,
  48, 50, 46, 67, 114, 99, 78, 117, 109, 98, 101, 114, 115, 32, 115, 112, 111, 111, 108, 47, 115, 112, 111, 111, 108, 108, 97, 119, 49, 56,
  46, 70, 114, 97, 103, 80, 108, 97, 121, 115, 32, 115, 112, 111, 111, 108, 47, 115, 112, 111, 111, 108, 116, 111, 112, 46, 87, 104, 111, 108,
  101, 80, 97, 103, 101, 115, 32, 115, 112, 111, 111, 108, 47, 115, 112, 111, 111, 108, 108, 97, 119, 49, 56, 46, 70, 114, 97, 103, 66, 97,
  99, 107, 32, 115, 112, 111, 111, 108, 47, 115, 112, 111, 111, 108, 108, 97, 119, 49, 56, 46, 70, 114, 97, 103, 69, 112, 111, 99, 104, 115,
  32, 115, 112, 111, 111, 108, 47, 115, 112, 111, 111, 108, 108, 97, 119, 49, 56, 46, 70, 114, 97, 103, 82, 111, 119, 32, 115, 112, 111, 111,
  108, 47, 115, 112, 111, 111, 108, 108, 97, 119, 49, 56, 46, 70, 114, 97, 103, 76, 111, 110, 103, 32, 115, 112, 111, 111, 108, 47, 115, 112,
  111, 111, 108, 108, 97, 119, 49, 54, 46, 68, 105, 115, 107, 84, 119, 105, 99, 101, 32, 115, 112, 111, 111, 108, 47, 115, 112, 111, 111, 108,
  108, 97, 119, 49, 54, 46, 68, 105, 115, 107, 76, 97, 115, 116, 32, 115, 112, 111, 111, 108, 47, 115, 112, 111, 111, 108, 108, 97, 119, 49,
  55, 46, 80, 97, 103, 101, 66, 97, 99, 107, 32, 115, 112, 111, 111, 108, 47, 115, 112, 111, 111, 108, 108, 97, 119, 49, 55, 46, 80, 97,
  103, 101, 79, 110, 108, 121, 32, 115, 112, 111, 111, 108, 47, 115, 112, 111, 111, 108, 108, 97, 119, 49, 55, 46, 80, 97, 103, 101, 80, 108,
  97, 121, 115, 32, 115, 112, 111, 111, 108, 47, 115, 112, 111, 111, 108, 108, 97, 119, 49, 55, 46, 80, 97, 103, 101, 85, 110, 108, 105, 107,
  101, 32, 115, 112, 111, 111, 108, 47, 115, 112, 111, 111, 108, 108, 97, 119, 49, 55, 46, 80, 97, 103, 101, 72, 101, 97, 100, 115, 32, 115,
  112, 111, 111, 108, 47, 115, 112, 111, 111, 108, 108, 97, 119, 49, 54, 46, 68, 105, 115, 107, 83, 117, 114, 101, 32, 115, 112, 111, 111, 108,
  47, 115, 112, 111, 111, 108, 108, 97, 119, 49, 54, 46, 68, 105, 115, 107, 80, 108, 97, 121, 115, 32, 115, 112, 111, 111, 108, 47, 115, 112,
  111, 111, 108, 108, 97, 119, 49, 54, 46, 68, 105, 115, 107, 70, 117, 115, 101, 100, 32, 115, 112, 111, 111, 108, 47, 115, 112, 111, 111, 108,
  108, 97, 119, 49, 57, 46, 83, 101, 103, 78, 101, 101, 100, 115, 32, 115, 112, 111, 111, 108, 47, 115, 112, 111, 111, 108, 108, 97, 119, 49,
  57, 46, 83, 101, 103, 70, 117, 108, 108, 32, 115, 112, 111, 111, 108, 47, 115, 112, 111, 111, 108, 108, 97, 119, 49, 57, 46, 83, 101, 103,
  70, 114, 111, 122, 101, 110, 32, 115, 112, 111, 111, 108, 47, 115, 112, 111, 111, 108, 108, 97, 119, 49, 57, 46, 83, 101, 103, 76, 97, 115,
  116, 115]

theorem words_space (w r : List Char) (h : ∀ c ∈ w, c ≠ Char.ofNat 32) : wordsSigns (w ++ Char.ofNat 32 :: r) = w :: wordsSigns r := by
  induction w with
  | nil => rfl
  | cons c w ih =>
    have hc : c ≠ Char.ofNat 32 := h c (by simp)
    have ih2 := ih (fun x hx => h x (by simp [hx]))
    rw [List.cons_append]
    have e : wordsSigns (c :: (w ++ Char.ofNat 32 :: r)) = (match wordsSigns (w ++ Char.ofNat 32 :: r) with | w :: ws => (c :: w) :: ws | [] => [[c]]) := by
      conv => lhs; unfold wordsSigns
      split
      · rename_i e; cases e
      · rename_i e; simp only [List.cons.injEq] at e; exact absurd e.1 hc
      · rename_i e
        simp only [List.cons.injEq] at e
        obtain ⟨rfl, rfl⟩ := e
        rfl
    rw [e, ih2]

theorem initOrder_eq : Try.prog.initOrder = String.ofList (w0 ++ Char.ofNat 32 :: (w1 ++ Char.ofNat 32 :: (w2 ++ Char.ofNat 32 :: rest))) := by kernel_rfl
theorem initOrder_list : Try.prog.initOrder.toList = w0 ++ Char.ofNat 32 :: (w1 ++ Char.ofNat 32 :: (w2 ++ Char.ofNat 32 :: rest)) := by rw [initOrder_eq, String.toList_ofList]
theorem signs : wordsSigns Try.prog.initOrder.toList = w0 :: w1 :: w2 :: wordsSigns rest := by
  rw [initOrder_list, words_space _ _ (by decide +kernel), words_space _ _ (by decide +kernel), words_space _ _ (by decide +kernel)]
theorem behind (r : List (List Char)) : behindMainWord (w0 :: w1 :: r) = r := by
  have h : ((w0 == "harness".toList || w0 == "ownmain".toList) && isSumSigns w1) = true := by decide +kernel
  simp only [behindMainWord, h, if_true]
theorem words : behindMainWord (wordsSigns Try.prog.initOrder.toList) = w2 :: wordsSigns rest := by
  rw [signs, behind]
theorem strip (r : List (List Char)) : stripLifts liftWords (w2 :: r) = ([], w2 :: r) := by kernel_rfl
theorem is_cut : (w2 == "cut".toList) = true := by decide +kernel
theorem headLifts : Try.prog.headLifts = [] := by
  unfold Program.headLifts
  rw [words, strip]
  simp
theorem doorFits : Try.prog.doorFits [] = true := by kernel_rfl
theorem laysLater : Try.prog.laysLater = false := by kernel_rfl
theorem bearsReflect : Try.prog.bearsReflect = false := by kernel_rfl
theorem mayEnter_of {P : Program} {r : List (List Char)} (h : behindMainWord (wordsSigns P.initOrder.toList) = w2 :: r) (hl : P.laysLater = false) (hr : P.bearsReflect = false) (hd : P.doorFits [] = true) : P.mayEnter = true := by
  unfold Program.mayEnter
  rw [h]
  have h1 : (w2 == "gc".toList || w2 == "spec".toList) = false := by decide +kernel
  have h2 : (w2 == "carried".toList) = false := by decide +kernel
  have h3 : (some w2 == some "cut".toList) = true := by decide +kernel
  simp only [strip, hl, hr, hd, List.head?_cons, h1, h2, h3, Bool.not_false, Bool.or_true, Bool.false_and, Bool.false_or, Bool.true_and, Bool.and_self]
  simp
theorem mayEnter : Try.prog.mayEnter = true := mayEnter_of words laysLater bearsReflect doorFits
theorem lifts_of {P : Program} {r : List (List Char)} (h : behindMainWord (wordsSigns P.initOrder.toList) = w2 :: r) (hl : P.headLifts = []) : P.liftsFinal = false := by
  unfold Program.liftsFinal
  rw [h, hl]
  simp only [List.head?_cons]
  have h1 : (some w2 == some "carried".toList) = false := by decide +kernel
  rw [h1]; rfl
theorem lifts : Try.prog.liftsFinal = false := lifts_of words headLifts
theorem make_of {P : Program} {r : List (List Char)} (h : behindMainWord (wordsSigns P.initOrder.toList) = w2 :: r) : P.make = some .cut := by
  unfold Program.make
  rw [h]
  have h1 : (w2 == "gc".toList || w2 == "spec".toList) = false := by decide +kernel
  simp only [h1, is_cut, Bool.true_or, if_true]
  rfl
theorem make : Try.prog.make = some .cut := make_of words
theorem laidOut : laidOutB Try.prog = true := by kernel_rfl
theorem mapsRowed : Go.mapsRowed Try.prog = true := by kernel_rfl
theorem plainKeys : Try.prog.plainKeys = true := by kernel_rfl
theorem stopsHeard : Try.prog.stopsHeard = true := by kernel_rfl
end Facts
end Go.Proofs.Ytmaaljfcnnlnpaa
