/-
  Maps keyed by whole numbers, told by what they hold at each. Nothing of the program is named here.
-/
import Derived.MapKept
import Derived.Maps.OwnSet
import Derived.WalkKit
import Derived.Below
namespace Go.Proofs.Ytmaaljfcnnlnpaa
open Go.MapKept

/-- A map that holds at each key what f says. -/
def MapAt (W : World) (b : Nat) (f : Int → Option Value) : Prop :=
  ∃ (es : Array MapEntry) (clock : Nat), W.heap[b]? = some (.map es clock) ∧ Stamped es clock ∧ (∀ x ∈ es.toList, IsKey (.int .i64) x.key) ∧
    ∀ i v, f i = some v ↔ ∃ (k : Nat) (x : MapEntry), es[k]? = some x ∧ x.key = .int .i64 i ∧ x.val = v

/-- The entry at a key bears this stamp. -/
def EntryAt (W : World) (b : Nat) (i : Int) (stamp : Nat) : Prop :=
  ∃ (es : Array MapEntry) (clock : Nat), W.heap[b]? = some (.map es clock) ∧ ∃ (k : Nat) (x : MapEntry), es[k]? = some x ∧ x.key = .int .i64 i ∧ x.born = stamp

/-- A map with one more place. -/
def upd (f : Int → Option Value) (i : Int) (v : Value) : Int → Option Value := fun j => if j = i then some v else f j

theorem MapAt.lt {W : World} {b : Nat} {f : Int → Option Value} (h : MapAt W b f) : b < W.heap.size := by
  obtain ⟨es, clock, hb, _⟩ := h
  exact (Array.getElem?_eq_some_iff.1 hb).1

theorem MapAt.of_block {W W' : World} {b : Nat} {f : Int → Option Value} (h : MapAt W b f) (e : W'.heap[b]? = W.heap[b]?) : MapAt W' b f := by
  obtain ⟨es, clock, hb, r⟩ := h
  exact ⟨es, clock, e.trans hb, r⟩

theorem MapAt.made (W : World) : MapAt (W.alloc (.map #[] 0)) W.heap.size (fun _ => none) :=
  ⟨#[], 0, (heap_alloc W _).1, stamped_empty 0, by simp, fun i v => by simp⟩

theorem key_once {es : Array MapEntry} {clock : Nat} (hs : Stamped es clock) {j k : Nat} {x y : MapEntry} (hx : es[j]? = some x) (hy : es[k]? = some y) (he : x.key = y.key) : j = k := by
  have h3 := hs.2.2
  have hj : j < es.size := (Array.getElem?_eq_some_iff.1 hx).1
  have h1 : (es.toList.map (·.key))[j]? = some x.key := by simp [hx]
  have h2 : (es.toList.map (·.key))[k]? = some x.key := by simp [hy, he]
  exact (List.getElem?_inj (by simpa using hj) h3).1 (h1.trans h2.symm)

theorem born_once {es : Array MapEntry} {clock : Nat} (hs : Stamped es clock) {j k : Nat} {x y : MapEntry} (hx : es[j]? = some x) (hy : es[k]? = some y) (he : x.born = y.born) : j = k := by
  have h3 := hs.2.1
  have hj : j < es.size := (Array.getElem?_eq_some_iff.1 hx).1
  have h1 : (es.toList.map (·.born))[j]? = some x.born := by simp [hx]
  have h2 : (es.toList.map (·.born))[k]? = some x.born := by simp [hy, he]
  exact (List.getElem?_inj (by simpa using hj) h3).1 (h1.trans h2.symm)

section
variable {P : Program} {W : World} {b : Nat} {f : Int → Option Value} {t kt et : TypeId}

theorem MapAt.look (h : MapAt W b f) (ht : P.underlying t = some (.map kt et)) (hk : P.underlying kt = some (.int .i64)) {z : Value} (hz : (zeroValue et).run P W = .ok z W) (i : Int) :
    (Instr.lookup t (.map (some b)) (.int .i64 i) false).run P W = .ok ((f i).getD z) W := by
  obtain ⟨es, clock, hb, hs, hks, hf⟩ := h
  have hki : IsKey (.int .i64) (.int .i64 i) := rfl
  rcases findNow_spec hki es.toList 0 hks with ⟨h1, h2⟩ | ⟨j, e, h1, h2, h3⟩
  · have : f i = none := by
      rcases hfi : f i with _ | v
      · rfl
      · obtain ⟨k, x, hx, hk, _⟩ := (hf i v).1 hfi
        exact absurd hk (h2 x (Array.mem_toList_iff.2 (Array.mem_of_getElem? hx)))
    simp [Instr.lookup, run_underlying ht, MapKept.run_getObj_map hb, run_checkKey hk hki, run_findKey hk h1, Result.andThen, hz, this]
  · have hj : es[j]? = some e := by simpa using h2
    have : f i = some e.val := (hf i e.val).2 ⟨j, e, hj, h3, rfl⟩
    simp [Instr.lookup, run_underlying ht, MapKept.run_getObj_map hb, run_checkKey hk hki, run_findKey hk h1, Result.andThen, this]

theorem turned_map {es es' : Array MapEntry} {clock clock' : Nat} (hb : W.heap[b]? = some (.map es clock)) : W.mapTurned { W with heap := W.heap.setIfInBounds b (.map es' clock') } b :=
  ⟨es, clock, es', clock', hb, rfl⟩

theorem MapAt.store (h : MapAt W b f) (ht : P.underlying t = some (.map kt et)) (hk : P.underlying kt = some (.int .i64)) (i : Int) (v : Value) :
    ∃ W', (Instr.mapUpdate t (.map (some b)) (.int .i64 i) v).run P W = .ok () W' ∧ W.mapTurned W' b ∧ MapAt W' b (upd f i v) := by
  obtain ⟨es, clock, hb, hs, hks, hf⟩ := h
  have hki : IsKey (.int .i64) (.int .i64 i) := rfl
  rcases findNow_spec hki es.toList 0 hks with ⟨h1, h2⟩ | ⟨j, e, h1, h2, h3⟩
  · refine ⟨{ W with heap := W.heap.setIfInBounds b (.map (es.push { key := .int .i64 i, val := v, born := clock }) (clock + 1)) }, by simp [Instr.mapUpdate, run_underlying ht, MapKept.run_getObj_map hb, run_checkKey hk hki, run_findKey hk h1, MapKept.run_setObj_map _ hb, Result.andThen], turned_map hb, _, _, (heap_set hb).1, stamped_push hs h2, ?_, ?_⟩
    · intro x hx
      simp only [Array.toList_push, List.mem_append, List.mem_singleton] at hx
      rcases hx with hx | rfl
      · exact hks x hx
      · exact hki
    · intro i' v'
      unfold upd
      constructor
      · intro hv
        split at hv
        · rename_i hi
          subst hi
          obtain rfl := Option.some.inj hv
          exact ⟨es.size, _, Array.getElem?_push_size, rfl, rfl⟩
        · obtain ⟨k, x, hx, hk, hv⟩ := (hf i' v').1 hv
          have hlt : k < es.size := (Array.getElem?_eq_some_iff.1 hx).1
          exact ⟨k, x, by rw [Array.getElem?_push, if_neg (by omega)]; exact hx, hk, hv⟩
      · rintro ⟨k, x, hx, hk, hv⟩
        rw [Array.getElem?_push] at hx
        split at hx
        · obtain rfl := Option.some.inj hx
          obtain rfl : i = i' := by injection hk
          rw [if_pos rfl]
          exact congrArg some hv
        · have hne : i' ≠ i := by
            rintro rfl
            exact h2 x (Array.mem_toList_iff.2 (Array.mem_of_getElem? hx)) hk
          rw [if_neg hne]
          exact (hf i' v').2 ⟨k, x, hx, hk, hv⟩
  · have hj : es[j]? = some e := by simpa using h2
    have hkey : ∀ e', es[j]? = some e' → ({ e' with key := .int .i64 i, val := v } : MapEntry).key = e'.key := fun e' he' => by rw [hj] at he'; cases he'; exact h3.symm
    refine ⟨{ W with heap := W.heap.setIfInBounds b (.map (es.modify j fun e => { e with key := .int .i64 i, val := v }) clock) }, by simp [Instr.mapUpdate, run_underlying ht, MapKept.run_getObj_map hb, run_checkKey hk hki, run_findKey hk h1, hj, h3, run_keyThatStays hki, MapKept.run_setObj_map _ hb, Result.andThen], turned_map hb, _, _, (heap_set hb).1,
      stamped_modify hs _ _ (fun _ _ => rfl) (fun e' _ he' => hkey e' he'), isKey_modify hks _ _ hkey, ?_⟩
    intro i' v'
    unfold upd
    constructor
    · intro hv
      split at hv
      · rename_i hi
        subst hi
        obtain rfl := Option.some.inj hv
        exact ⟨j, { e with key := .int .i64 i', val := v }, by rw [Array.getElem?_modify, if_pos rfl, hj]; rfl, rfl, rfl⟩
      · rename_i hi
        obtain ⟨k, x, hx, hk, hv⟩ := (hf i' v').1 hv
        refine ⟨k, x, ?_, hk, hv⟩
        rw [Array.getElem?_modify, if_neg]
        · exact hx
        · rintro rfl
          rw [hj] at hx
          cases hx
          rw [h3] at hk
          injection hk with _ hk
          exact hi hk.symm
    · rintro ⟨k, x, hx, hk, hv⟩
      rw [Array.getElem?_modify] at hx
      split at hx
      · rename_i hjk
        subst hjk
        rw [hj] at hx
        obtain rfl := Option.some.inj hx
        obtain rfl : i = i' := by injection hk
        rw [if_pos rfl]
        exact congrArg some hv
      · rename_i hjk
        have hne : i' ≠ i := by
          rintro rfl
          exact hjk (key_once hs hj hx (h3.trans hk.symm))
        rw [if_neg hne]
        exact (hf i' v').2 ⟨k, x, hx, hk, hv⟩

theorem MapAt.entry (h : MapAt W b f) (ht : P.underlying t = some (.map kt et)) (hk : P.underlying kt = some (.int .i64)) {z : Value} (hz : (zeroValue et).run P W = .ok z W) (i : Int) :
    ∃ W' stamp, (Instr.mapEntry t (.map (some b)) (.int .i64 i)).run P W = .ok (.tuple #[(f i).getD z, .int .i64 (stamp : Nat)]) W' ∧ W.mapTurned W' b ∧ MapAt W' b (upd f i ((f i).getD z)) ∧ EntryAt W' b i stamp := by
  obtain ⟨es, clock, hb, hs, hks, hf⟩ := h
  have hki : IsKey (.int .i64) (.int .i64 i) := rfl
  rcases findNow_spec hki es.toList 0 hks with ⟨h1, h2⟩ | ⟨j, e, h1, h2, h3⟩
  · have hn : f i = none := by
      rcases hfi : f i with _ | v
      · rfl
      · obtain ⟨k, x, hx, hk, _⟩ := (hf i v).1 hfi
        exact absurd hk (h2 x (Array.mem_toList_iff.2 (Array.mem_of_getElem? hx)))
    refine ⟨{ W with heap := W.heap.setIfInBounds b (.map (es.push { key := .int .i64 i, val := z, born := clock }) (clock + 1)) }, clock, by simp [Instr.mapEntry, run_underlying ht, MapKept.run_getObj_map hb, run_checkKey hk hki, run_findKey hk h1, MapKept.run_setObj_map _ hb, Result.andThen, hz, hn, goInt], turned_map hb, ⟨_, _, (heap_set hb).1, stamped_push hs h2, ?_, ?_⟩, _, _, (heap_set hb).1, es.size, _, Array.getElem?_push_size, rfl, rfl⟩
    · intro x hx
      simp only [Array.toList_push, List.mem_append, List.mem_singleton] at hx
      rcases hx with hx | rfl
      · exact hks x hx
      · exact hki
    · intro i' v'
      unfold upd
      rw [hn]
      constructor
      · intro hv
        split at hv
        · rename_i hi
          subst hi
          obtain rfl := Option.some.inj hv
          exact ⟨es.size, _, Array.getElem?_push_size, rfl, rfl⟩
        · obtain ⟨k, x, hx, hk, hv⟩ := (hf i' v').1 hv
          have hlt : k < es.size := (Array.getElem?_eq_some_iff.1 hx).1
          exact ⟨k, x, by rw [Array.getElem?_push, if_neg (by omega)]; exact hx, hk, hv⟩
      · rintro ⟨k, x, hx, hk, hv⟩
        rw [Array.getElem?_push] at hx
        split at hx
        · obtain rfl := Option.some.inj hx
          obtain rfl : i = i' := by injection hk
          rw [if_pos rfl]
          exact congrArg some hv
        · have hne : i' ≠ i := by
            rintro rfl
            exact h2 x (Array.mem_toList_iff.2 (Array.mem_of_getElem? hx)) hk
          rw [if_neg hne]
          exact (hf i' v').2 ⟨k, x, hx, hk, hv⟩
  · have hj : es[j]? = some e := by simpa using h2
    have hsome : f i = some e.val := (hf i e.val).2 ⟨j, e, hj, h3, rfl⟩
    have hkey : ∀ e', es[j]? = some e' → ({ e' with key := .int .i64 i } : MapEntry).key = e'.key := fun e' he' => by rw [hj] at he'; cases he'; exact h3.symm
    refine ⟨{ W with heap := W.heap.setIfInBounds b (.map (es.modify j fun e => { e with key := .int .i64 i }) clock) }, e.born, by simp [Instr.mapEntry, run_underlying ht, MapKept.run_getObj_map hb, run_checkKey hk hki, run_findKey hk h1, hj, h3, run_keyThatStays hki, MapKept.run_setObj_map _ hb, Result.andThen, hsome, goInt], turned_map hb,
      ⟨_, _, (heap_set hb).1, stamped_modify hs _ _ (fun _ _ => rfl) (fun e' _ he' => hkey e' he'), isKey_modify hks _ _ hkey, ?_⟩,
      _, _, (heap_set hb).1, j, { e with key := .int .i64 i }, by rw [Array.getElem?_modify, if_pos rfl, hj]; rfl, rfl, rfl⟩
    intro i' v'
    unfold upd
    rw [hsome]
    constructor
    · intro hv
      split at hv
      · rename_i hi
        subst hi
        obtain rfl := Option.some.inj hv
        exact ⟨j, { e with key := .int .i64 i' }, by rw [Array.getElem?_modify, if_pos rfl, hj]; rfl, rfl, rfl⟩
      · rename_i hi
        obtain ⟨k, x, hx, hk, hv⟩ := (hf i' v').1 hv
        refine ⟨k, x, ?_, hk, hv⟩
        rw [Array.getElem?_modify, if_neg]
        · exact hx
        · rintro rfl
          rw [hj] at hx
          cases hx
          rw [h3] at hk
          injection hk with _ hk
          exact hi hk.symm
    · rintro ⟨k, x, hx, hk, hv⟩
      rw [Array.getElem?_modify] at hx
      split at hx
      · rename_i hjk
        subst hjk
        rw [hj] at hx
        obtain rfl := Option.some.inj hx
        obtain rfl : i = i' := by injection hk
        rw [if_pos rfl]
        exact congrArg some hv
      · rename_i hjk
        have hne : i' ≠ i := by
          rintro rfl
          exact hjk (key_once hs hj hx (h3.trans hk.symm))
        rw [if_neg hne]
        exact (hf i' v').2 ⟨k, x, hx, hk, hv⟩

theorem MapAt.entryStore (h : MapAt W b f) {i : Int} {stamp : Nat} (he : EntryAt W b i stamp) (v : Value) :
    ∃ W', (Instr.entryStore t (.map (some b)) (.int .i64 (stamp : Nat)) v).run P W = .ok () W' ∧ W.mapTurned W' b ∧ MapAt W' b (upd f i v) := by
  obtain ⟨es, clock, hb, hs, hks, hf⟩ := h
  obtain ⟨es2, clock2, hb2, j, e, hj, h3, hborn⟩ := he
  rw [hb] at hb2
  cases hb2
  have hfi : es.findIdx? (fun e => (e.born : Int) == (stamp : Nat)) = some j := by
    rw [Array.findIdx?_eq_some_iff_getElem]
    have hlt : j < es.size := (Array.getElem?_eq_some_iff.1 hj).1
    have hej : es[j] = e := (Array.getElem?_eq_some_iff.1 hj).2
    refine ⟨hlt, by rw [hej, hborn]; simp, fun k hk => ?_⟩
    have hne : es[k].born ≠ e.born := fun h => by
      have := born_once hs (Array.getElem?_eq_getElem (by omega)) hj h
      omega
    rw [hborn] at hne
    simp; omega
  refine ⟨{ W with heap := W.heap.setIfInBounds b (.map (es.modify j fun e => { e with val := v }) clock) }, by simp [Instr.entryStore, MapKept.run_getObj_map hb, Result.andThen, asInt, asIntOf, hfi, MapKept.run_setObj_map _ hb], turned_map hb, _, _, (heap_set hb).1,
    stamped_modify hs _ _ (fun _ _ => rfl) (fun _ _ _ => rfl), isKey_modify hks _ _ (fun _ _ => rfl), ?_⟩
  intro i' v'
  unfold upd
  constructor
  · intro hv
    split at hv
    · rename_i hi
      subst hi
      obtain rfl := Option.some.inj hv
      exact ⟨j, { e with val := v }, by rw [Array.getElem?_modify, if_pos rfl, hj]; rfl, h3, rfl⟩
    · rename_i hi
      obtain ⟨k, x, hx, hk, hv⟩ := (hf i' v').1 hv
      refine ⟨k, x, ?_, hk, hv⟩
      rw [Array.getElem?_modify, if_neg]
      · exact hx
      · rintro rfl
        rw [hj] at hx
        cases hx
        rw [h3] at hk
        injection hk with _ hk
        exact hi hk.symm
  · rintro ⟨k, x, hx, hk, hv⟩
    rw [Array.getElem?_modify] at hx
    split at hx
    · rename_i hjk
      subst hjk
      rw [hj] at hx
      obtain rfl := Option.some.inj hx
      obtain rfl : i = i' := by
        have : e.key = .int .i64 i' := hk
        rw [h3] at this
        injection this
      rw [if_pos rfl]
      exact congrArg some hv
    · rename_i hjk
      have hne : i' ≠ i := by
        rintro rfl
        exact hjk (key_once hs hj hx (h3.trans hk.symm))
      rw [if_neg hne]
      exact (hf i' v').2 ⟨k, x, hx, hk, hv⟩
end
end Go.Proofs.Ytmaaljfcnnlnpaa


namespace Go.Proofs.Ytmaaljfcnnlnpaa

abbrev Wr := Int × List UInt8

/-- A disk. -/
structure Dk where
  size : Int
  sure : Int → List UInt8
  loose : List Wr
  down : Bool
  fuse : Int
  reads : Int → Int

def put (f : Int → List UInt8) (i : Int) (p : List UInt8) : Int → List UInt8 := fun j => if j = i then p else f j

theorem put_same (f : Int → List UInt8) (i : Int) (p : List UInt8) : put f i p i = p := if_pos rfl
theorem put_other (f : Int → List UInt8) (i j : Int) (p : List UInt8) (h : j ≠ i) : put f i p j = f j := if_neg h

/-- The newest write of a sector. -/
def lastAt : List Wr → Int → Option (List UInt8)
  | [], _ => none
  | x :: l, i => match lastAt l i with
    | some p => some p
    | none => if x.1 = i then some x.2 else none

def Dk.seen (D : Dk) (i : Int) : List UInt8 := (lastAt D.loose i).getD (D.sure i)

theorem lastAt_append (l : List Wr) (x : Wr) (i : Int) : lastAt (l ++ [x]) i = if x.1 = i then some x.2 else lastAt l i := by
  induction l with
  | nil => simp [lastAt]
  | cons y l ih =>
    show (match lastAt (l ++ [x]) i with | some p => some p | none => if y.1 = i then some y.2 else none) = _
    rw [ih]
    by_cases h : x.1 = i
    · simp [h]
    · simp [h, lastAt]

theorem lastAt_app (a b : List Wr) (i : Int) : lastAt (a ++ b) i = match lastAt b i with | some p => some p | none => lastAt a i := by
  induction a with
  | nil =>
    show lastAt b i = _
    cases lastAt b i <;> rfl
  | cons x a ih =>
    show (match lastAt (a ++ b) i with | some p => some p | none => if x.1 = i then some x.2 else none) = _
    rw [ih]
    cases lastAt b i <;> rfl

theorem lastAt_of_drop (l : List Wr) (k : Nat) (i : Int) (p : List UInt8) (h : lastAt (l.drop k) i = some p) : lastAt l i = some p := by
  rw [← List.take_append_drop k l, lastAt_app, h]

/-- The loose writes that are kept are made sure. -/
def stl (k : Nat → Bool) (l : List Wr) (f : Int → List UInt8) : Int → List UInt8 :=
  l.zipIdx.foldl (fun f x => if k x.2 then put f x.1.1 x.1.2 else f) f

theorem stl_nil (k : Nat → Bool) (f : Int → List UInt8) : stl k [] f = f := rfl

theorem stl_snoc (k : Nat → Bool) (l : List Wr) (x : Wr) (f : Int → List UInt8) : stl k (l ++ [x]) f = if k l.length then put (stl k l f) x.1 x.2 else stl k l f := by
  unfold stl
  rw [List.zipIdx_append, List.foldl_append]
  simp

theorem stl_take (k : Nat → Bool) (l : List Wr) (j : Nat) (hj : j < l.length) (f : Int → List UInt8) :
    stl k (l.take (j + 1)) f = if k j then put (stl k (l.take j) f) l[j].1 l[j].2 else stl k (l.take j) f := by
  rw [List.take_succ_eq_append_getElem hj, stl_snoc]
  have : (l.take j).length = j := by simp; omega
  rw [this]

/-- Kept whole, what is read is what was written last. -/
theorem seen_all (l : List Wr) (f : Int → List UInt8) (i : Int) : (lastAt l i).getD (f i) = stl (fun _ => true) l f i := by
  suffices h : ∀ r : List Wr, (lastAt r.reverse i).getD (f i) = stl (fun _ => true) r.reverse f i by simpa using h l.reverse
  intro r
  induction r with
  | nil => rfl
  | cons x r ih =>
    rw [List.reverse_cons, lastAt_append, stl_snoc]
    simp only [if_true]
    by_cases h : x.1 = i
    · rw [if_pos h, ← h, put_same]; rfl
    · rw [if_neg h, put_other _ _ _ _ (Ne.symm h)]; exact ih

theorem stl_len (k : Nat → Bool) (f : Int → List UInt8) (hf : ∀ i, (f i).length = 64) : ∀ l : List Wr, (∀ x ∈ l, x.2.length = 64) → ∀ i, (stl k l f i).length = 64 := by
  intro l
  suffices h : ∀ r : List Wr, (∀ x ∈ r, x.2.length = 64) → ∀ i, (stl k r.reverse f i).length = 64 by
    intro hl
    have := h l.reverse (fun x hx => hl x (List.mem_reverse.1 hx))
    simpa using this
  intro r
  induction r with
  | nil => intro _ i; exact hf i
  | cons x r ih =>
    intro hr i
    rw [List.reverse_cons, stl_snoc]
    have ih := ih (fun y hy => hr y (.tail _ hy))
    split
    · unfold put
      split
      · exact hr x (.head _)
      · exact ih i
    · exact ih i

theorem lastAt_len (l : List Wr) (hl : ∀ x ∈ l, x.2.length = 64) (i : Int) (p : List UInt8) (h : lastAt l i = some p) : p.length = 64 := by
  induction l with
  | nil => cases h
  | cons x l ih =>
    unfold lastAt at h
    rcases hl2 : lastAt l i with _ | q
    · rw [hl2] at h
      simp only at h
      split at h
      · cases h; exact hl x (.head _)
      · cases h
    · rw [hl2] at h
      cases h
      exact ih (fun y hy => hl y (.tail _ hy)) hl2

def Dk.may (D : Dk) (i : Int) : Nat := if D.down then 7 else if i < 0 ∨ D.size ≤ i then 1 else 0
def Dk.burnt (D : Dk) : Dk := { D with fuse := max (D.fuse - 1) (-1) }
def Dk.wrote (D : Dk) (i : Int) (p : List UInt8) : Dk := { D with loose := D.loose ++ [(i, p)] }
def Dk.settled (D : Dk) (k : Nat → Bool) : Dk := { D with sure := stl k D.loose D.sure, loose := [] }

/-- Its pages are pages. -/
structure Dk.ok (D : Dk) : Prop where
  sure : ∀ i, (D.sure i).length = 64
  loose : ∀ x ∈ D.loose, x.2.length = 64

theorem Dk.ok.seen {D : Dk} (h : D.ok) (i : Int) : (D.seen i).length = 64 := by
  unfold Dk.seen
  rcases hl : lastAt D.loose i with _ | p
  · exact h.sure i
  · exact lastAt_len _ h.loose i p hl

theorem Dk.ok.wrote {D : Dk} (h : D.ok) (i : Int) (p : List UInt8) (hp : p.length = 64) : (D.wrote i p).ok :=
  ⟨h.sure, fun x hx => by
    rcases List.mem_append.1 hx with h1 | h1
    · exact h.loose x h1
    · rw [List.mem_singleton.1 h1]; exact hp⟩

theorem Dk.ok.settled {D : Dk} (h : D.ok) (k : Nat → Bool) : (D.settled k).ok := ⟨fun i => stl_len k D.sure h.sure D.loose h.loose i, fun x hx => by cases hx⟩
end Go.Proofs.Ytmaaljfcnnlnpaa
