/-
  Small laws that several walks use: bytes that lie in memory one behind the other, and what the conversions make of them.
-/
import Derived.Test.YtmaaljfcnnlnpaaProg
import Derived.WalkKit
import Derived.WalkLawsBesides
import Derived.Lib.Hide
import Derived.Lib.Strings
import Derived.Lib.ConvBytes
import Derived.BigQuiet
import Derived.Deep.QuietTactic
namespace Go.Proofs.Ytmaaljfcnnlnpaa
open Go.RowKit

theorem ret_int {k : IntKind} {a b : Int} (h : a = b) : Ending.returned (.int k a) = .returned (.int k b) := by rw [h]

/-- A byte, as a value. -/
def bv (b : UInt8) : Value := .int .u8 (b.toNat : Int)

/-- Bytes that lie in memory, one behind the other. -/
def BytesAt (w : World) (b o : Nat) (bs : List UInt8) : Prop := ∀ j (h : j < bs.length), w.cell? ⟨b, o + j, none⟩ = some (bv bs[j])

theorem addr_add (b o j : Nat) : (⟨b, o, none⟩ : Addr).add j = ⟨b, o + j, none⟩ := Addr.add_lit b o j

theorem foldl_push (bs : List UInt8) : ∀ s : ByteArray, (bs.map fun b => (b.toNat : Int)).foldl (fun r n => r.push (UInt8.ofNat n.toNat)) s = ⟨(s.data.toList ++ bs).toArray⟩ := by
  induction bs with
  | nil => intro s; simp
  | cons b bs ih =>
    intro s
    simp only [List.map_cons, List.foldl_cons, ih]
    simp [ByteArray.push]

theorem run_bytes_str {w : World} {b o n c : Nat} {bs : List UInt8} (h : BytesAt w b o bs) (hn : n = bs.length) :
    (convert 25 9 (.slice (some ⟨b, o, none⟩) n c)).run Try.prog w = .ok (.string ⟨bs.toArray⟩) w := by
  subst hn
  rw [run_convert_bytes_string w 25 9 5 _ _ _ Try.underlying25 Try.underlying5 Try.underlying9]
  rw [run_bytesToString w ⟨b, o, none⟩ bs.length c (bs.map fun b => (b.toNat : Int))]
  · rw [foldl_push]
    simp [ByteArray.empty, ByteArray.emptyWithCapacity]
    rfl
  · have := run_loadCells_list (P := Try.prog) w ⟨b, o, none⟩ (bs.map bv) (fun j v hv => by
      rw [addr_add]
      rw [List.getElem?_map] at hv
      obtain ⟨x, hx, rfl⟩ := Option.map_eq_some_iff.1 hv
      obtain ⟨hj, rfl⟩ := List.getElem?_eq_some_iff.1 hx
      exact h j hj)
    rw [List.length_map] at this
    rw [this, List.map_map]
    rfl

/-- A callee that leaves what was there as it was, met where the caller has left what was there as it was. -/
theorem below_rel {P : Program} {f : FuncId} {args : Array Value} {w0 w : World} {r : Ending} (hb : Below w0.heap.size w0 w)
    (h : Calls P f args w fun e w' => e = r ∧ Below w.heap.size w w') : Calls P f args w fun e w' => e = r ∧ Below w0.heap.size w0 w' :=
  h.mono fun _ _ ⟨he, hw⟩ => ⟨he, hb.trans (hw.mono hb.size)⟩

theorem same_rel {P : Program} {f : FuncId} {args : Array Value} {w0 w : World} {r : Ending} (hb : Below w0.heap.size w0 w)
    (h : Calls P f args w fun e w' => e = r ∧ w = w') : Calls P f args w fun e w' => e = r ∧ Below w0.heap.size w0 w' :=
  h.mono fun _ _ ⟨he, hw⟩ => ⟨he, hw ▸ hb⟩

/-- A slice of bytes that the call owns, as a string. -/
theorem run_row_str {w : World} {B n : Nat} {v : Value} {l : List UInt8} (h : w.ownsRow B 5 1 v n (l.map bv)) :
    (convert 25 9 v).run Try.prog w = .ok (.string ⟨l.toArray⟩) w := by
  have hn : l.length = n := by have := h.1; simpa using this
  rcases h.2 with ⟨rfl, h0⟩ | ⟨g, cap, cur, rfl, hb, hg, hnc, hcm, hcs, htake⟩
  · have : l = [] := List.eq_nil_of_length_eq_zero (by omega)
    subst this
    rw [run_convert_bytes_string w 25 9 5 _ _ _ Try.underlying25 Try.underlying5 Try.underlying9]
    simp [Conv.bytesToString, Sem.run_pure]
    rfl
  · refine run_bytes_str (bs := l) (fun j hj => ?_) hn.symm
    rw [Nat.zero_add, cell_of_row w g j cur 5 (0, 0) hg]
    have e : (cur.toList.take (n * 1))[j]? = (l.map bv)[j]? := by rw [htake]
    rw [List.getElem?_take, if_pos (by omega)] at e
    simpa [hj] using e

/-- Behind an append onto a row of the call's own: what was there before the call is as it was. -/
theorem below_append {B : Nat} {w wr w1 : World} {o : Obj} {e : TypeId} {size : Nat} {v : Value} {n : Nat} {xs : List Value} (hB : Below B w wr) (hs : B ≤ wr.heap.size)
    (hown : wr.ownsRow B e size v n xs) (hg : (wr.alloc o).drew.grownBy w1 v.ownBlock) : Below B w w1 :=
  ((hB.alloc hs o).drew).grown hg (by simp; omega) (fun k hk => (hown.lt k hk).1)

/-- '[]byte(s)': a new row of the call's own, the text's bytes in it. -/
theorem run_str_bytes (w : World) (s : ByteArray) : ∃ cap w1, (convert 9 25 (.string s)).run Try.prog w = .ok (.slice (some ⟨w.heap.size, 0, none⟩) s.size cap) w1 ∧
    s.size ≤ cap ∧ Below w.heap.size w w1 ∧ w1.heap.size = w.heap.size + 1 ∧ BytesAt w1 w.heap.size 0 s.data.toList ∧ (∀ j, j < s.size → w1.frozen? ⟨w.heap.size, j, none⟩ = false) := by
  refine ⟨_, _, Lib.run_convert_string_bytes (P := Try.prog) w 9 25 5 s Try.underlying9 Try.underlying25 Try.underlying5, grownCap_ge _ _ _ _, ?_, Lib.bytesWorld_size _ _ _, ?_, ?_⟩
  · refine ⟨?_, ?_, ?_, ?_, fun k hk => Lib.bytesWorld_at_old _ _ _ _ hk⟩
    · simp only [Lib.bytesWorld, World.freeze]; split <;> rfl
    · simp only [Lib.bytesWorld, World.freeze]; split <;> rfl
    · simp only [Lib.bytesWorld, World.freeze]; split <;> rfl
    · rw [Lib.bytesWorld_size]; omega
  · intro j hj
    have hj2 : j < s.size := by simpa using hj
    rw [Nat.zero_add, Lib.bytesWorld_cell w 5 s j hj2]
    simp [bv, List.getD, hj2]
  · intro j hj
    have hcs : s.size ≤ (Lib.bytesCells w 5 s).size := by
      have := grownCap_ge w s.size 0 5
      simp [Lib.bytesCells]
    simp only [World.frozen?, Lib.bytesWorld_at_new]
    simp; omega

theorem data_append (s t : ByteArray) : (s ++ t).data.toList = s.data.toList ++ t.data.toList := by
  simp [ByteArray.data_append]
end Go.Proofs.Ytmaaljfcnnlnpaa
