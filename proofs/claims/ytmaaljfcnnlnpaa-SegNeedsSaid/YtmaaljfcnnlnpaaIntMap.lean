/-
  Maps keyed by whole numbers, told by what they hold at each. Nothing of the program is named here.
-/
import Derived.MapKept
import Derived.Maps.OwnSet
import Derived.WalkKit
import Derived.Below
namespace Go.Proofs.Ytmaaljfcnnlnpaa
open Go.MapKept

/-- A map that holds at each key what f says. -/
def MapAt (W : World) (b : Nat) (f : Int → Option Value) : Prop :=
  ∃ (es : Array MapEntry) (clock : Nat), W.heap[b]? = some (.map es clock) ∧ Stamped es clock ∧ (∀ x ∈ es.toList, IsKey (.int .i64) x.key) ∧
    ∀ i v, f i = some v ↔ ∃ (k : Nat) (x : MapEntry), es[k]? = some x ∧ x.key = .int .i64 i ∧ x.val = v

/-- The entry at a key bears this stamp. -/
def EntryAt (W : World) (b : Nat) (i : Int) (stamp : Nat) : Prop :=
  ∃ (es : Array MapEntry) (clock : Nat), W.heap[b]? = some (.map es clock) ∧ ∃ (k : Nat) (x : MapEntry), es[k]? = some x ∧ x.key = .int .i64 i ∧ x.born = stamp

/-- A map with one more place. -/
def upd (f : Int → Option Value) (i : Int) (v : Value) : Int → Option Value := fun j => if j = i then some v else f j

theorem MapAt.lt {W : World} {b : Nat} {f : Int → Option Value} (h : MapAt W b f) : b < W.heap.size := by
  obtain ⟨es, clock, hb, _⟩ := h
  exact (Array.getElem?_eq_some_iff.1 hb).1

theorem MapAt.of_block {W W' : World} {b : Nat} {f : Int → Option Value} (h : MapAt W b f) (e : W'.heap[b]? = W.heap[b]?) : MapAt W' b f := by
  obtain ⟨es, clock, hb, r⟩ := h
  exact ⟨es, clock, e.trans hb, r⟩

theorem MapAt.made (W : World) : MapAt (W.alloc (.map #[] 0)) W.heap.size (fun _ => none) :=
  ⟨#[], 0, (heap_alloc W _).1, stamped_empty 0, by simp, fun i v => by simp⟩

theorem key_once {es : Array MapEntry} {clock : Nat} (hs : Stamped es clock) {j k : Nat} {x y : MapEntry} (hx : es[j]? = some x) (hy : es[k]? = some y) (he : x.key = y.key) : j = k := by
  have h3 := hs.2.2
  have hj : j < es.size := (Array.getElem?_eq_some_iff.1 hx).1
  have h1 : (es.toList.map (·.key))[j]? = some x.key := by simp [hx]
  have h2 : (es.toList.map (·.key))[k]? = some x.key := by simp [hy, he]
  exact (List.getElem?_inj (by simpa using hj) h3).1 (h1.trans h2.symm)

theorem born_once {es : Array MapEntry} {clock : Nat} (hs : Stamped es clock) {j k : Nat} {x y : MapEntry} (hx : es[j]? = some x) (hy : es[k]? = some y) (he : x.born = y.born) : j = k := by
  have h3 := hs.2.1
  have hj : j < es.size := (Array.getElem?_eq_some_iff.1 hx).1
  have h1 : (es.toList.map (·.born))[j]? = some x.born := by simp [hx]
  have h2 : (es.toList.map (·.born))[k]? = some x.born := by simp [hy, he]
  exact (List.getElem?_inj (by simpa using hj) h3).1 (h1.trans h2.symm)

section
variable {P : Program} {W : World} {b : Nat} {f : Int → Option Value} {t kt et : TypeId}

theorem MapAt.look (h : MapAt W b f) (ht : P.underlying t = some (.map kt et)) (hk : P.underlying kt = some (.int .i64)) {z : Value} (hz : (zeroValue et).run P W = .ok z W) (i : Int) :
    (Instr.lookup t (.map (some b)) (.int .i64 i) false).run P W = .ok ((f i).getD z) W := by
  obtain ⟨es, clock, hb, hs, hks, hf⟩ := h
  have hki : IsKey (.int .i64) (.int .i64 i) := rfl
  rcases findNow_spec hki es.toList 0 hks with ⟨h1, h2⟩ | ⟨j, e, h1, h2, h3⟩
  · have : f i = none := by
      rcases hfi : f i with _ | v
      · rfl
      · obtain ⟨k, x, hx, hk, _⟩ := (hf i v).1 hfi
        exact absurd hk (h2 x (Array.mem_toList_iff.2 (Array.mem_of_getElem? hx)))
    simp [Instr.lookup, run_underlying ht, MapKept.run_getObj_map hb, run_checkKey hk hki, run_findKey hk h1, Result.andThen, hz, this]
  · have hj : es[j]? = some e := by simpa using h2
    have : f i = some e.val := (hf i e.val).2 ⟨j, e, hj, h3, rfl⟩
    simp [Instr.lookup, run_underlying ht, MapKept.run_getObj_map hb, run_checkKey hk hki, run_findKey hk h1, Result.andThen, this]

theorem turned_map {es es' : Array MapEntry} {clock clock' : Nat} (hb : W.heap[b]? = some (.map es clock)) : W.mapTurned { W with heap := W.heap.setIfInBounds b (.map es' clock') } b :=
  ⟨es, clock, es', clock', hb, rfl⟩

theorem MapAt.store (h : MapAt W b f) (ht : P.underlying t = some (.map kt et)) (hk : P.underlying kt = some (.int .i64)) (i : Int) (v : Value) :
    ∃ W', (Instr.mapUpdate t (.map (some b)) (.int .i64 i) v).run P W = .ok () W' ∧ W.mapTurned W' b ∧ MapAt W' b (upd f i v) := by
  obtain ⟨es, clock, hb, hs, hks, hf⟩ := h
  have hki : IsKey (.int .i64) (.int .i64 i) := rfl
  rcases findNow_spec hki es.toList 0 hks with ⟨h1, h2⟩ | ⟨j, e, h1, h2, h3⟩
  · refine ⟨{ W with heap := W.heap.setIfInBounds b (.map (es.push { key := .int .i64 i, val := v, born := clock }) (clock + 1)) }, by simp [Instr.mapUpdate, run_underlying ht, MapKept.run_getObj_map hb, run_checkKey hk hki, run_findKey hk h1, MapKept.run_setObj_map _ hb, Result.andThen], turned_map hb, _, _, (heap_set hb).1, stamped_push hs h2, ?_, ?_⟩
    · intro x hx
      simp only [Array.toList_push, List.mem_append, List.mem_singleton] at hx
      rcases hx with hx | rfl
      · exact hks x hx
      · exact hki
    · intro i' v'
      unfold upd
      constructor
      · intro hv
        split at hv
        · rename_i hi
          subst hi
          obtain rfl := Option.some.inj hv
          exact ⟨es.size, _, Array.getElem?_push_size, rfl, rfl⟩
        · obtain ⟨k, x, hx, hk, hv⟩ := (hf i' v').1 hv
          have hlt : k < es.size := (Array.getElem?_eq_some_iff.1 hx).1
          exact ⟨k, x, by rw [Array.getElem?_push, if_neg (by omega)]; exact hx, hk, hv⟩
      · rintro ⟨k, x, hx, hk, hv⟩
        rw [Array.getElem?_push] at hx
        split at hx
        · obtain rfl := Option.some.inj hx
          obtain rfl : i = i' := by injection hk
          rw [if_pos rfl]
          exact congrArg some hv
        · have hne : i' ≠ i := by
            rintro rfl
            exact h2 x (Array.mem_toList_iff.2 (Array.mem_of_getElem? hx)) hk
          rw [if_neg hne]
          exact (hf i' v').2 ⟨k, x, hx, hk, hv⟩
  · have hj : es[j]? = some e := by simpa using h2
    have hkey : ∀ e', es[j]? = some e' → ({ e' with key := .int .i64 i, val := v } : MapEntry).key = e'.key := fun e' he' => by rw [hj] at he'; cases he'; exact h3.symm
    refine ⟨{ W with heap := W.heap.setIfInBounds b (.map (es.modify j fun e => { e with key := .int .i64 i, val := v }) clock) }, by simp [Instr.mapUpdate, run_underlying ht, MapKept.run_getObj_map hb, run_checkKey hk hki, run_findKey hk h1, hj, h3, run_keyThatStays hki, MapKept.run_setObj_map _ hb, Result.andThen], turned_map hb, _, _, (heap_set hb).1,
      stamped_modify hs _ _ (fun _ _ => rfl) (fun e' _ he' => hkey e' he'), isKey_modify hks _ _ hkey, ?_⟩
    intro i' v'
    unfold upd
    constructor
    · intro hv
      split at hv
      · rename_i hi
        subst hi
        obtain rfl := Option.some.inj hv
        exact ⟨j, { e with key := .int .i64 i', val := v }, by rw [Array.getElem?_modify, if_pos rfl, hj]; rfl, rfl, rfl⟩
      · rename_i hi
        obtain ⟨k, x, hx, hk, hv⟩ := (hf i' v').1 hv
        refine ⟨k, x, ?_, hk, hv⟩
        rw [Array.getElem?_modify, if_neg]
        · exact hx
        · rintro rfl
          rw [hj] at hx
          cases hx
          rw [h3] at hk
          injection hk with _ hk
          exact hi hk.symm
    · rintro ⟨k, x, hx, hk, hv⟩
      rw [Array.getElem?_modify] at hx
      split at hx
      · rename_i hjk
        subst hjk
        rw [hj] at hx
        obtain rfl := Option.some.inj hx
        obtain rfl : i = i' := by injection hk
        rw [if_pos rfl]
        exact congrArg some hv
      · rename_i hjk
        have hne : i' ≠ i := by
          rintro rfl
          exact hjk (key_once hs hj hx (h3.trans hk.symm))
        rw [if_neg hne]
        exact (hf i' v').2 ⟨k, x, hx, hk, hv⟩

theorem MapAt.entry (h : MapAt W b f) (ht : P.underlying t = some (.map kt et)) (hk : P.underlying kt = some (.int .i64)) {z : Value} (hz : (zeroValue et).run P W = .ok z W) (i : Int) :
    ∃ W' stamp, (Instr.mapEntry t (.map (some b)) (.int .i64 i)).run P W = .ok (.tuple #[(f i).getD z, .int .i64 (stamp : Nat)]) W' ∧ W.mapTurned W' b ∧ MapAt W' b (upd f i ((f i).getD z)) ∧ EntryAt W' b i stamp := by
  obtain ⟨es, clock, hb, hs, hks, hf⟩ := h
  have hki : IsKey (.int .i64) (.int .i64 i) := rfl
  rcases findNow_spec hki es.toList 0 hks with ⟨h1, h2⟩ | ⟨j, e, h1, h2, h3⟩
  · have hn : f i = none := by
      rcases hfi : f i with _ | v
      · rfl
      · obtain ⟨k, x, hx, hk, _⟩ := (hf i v).1 hfi
        exact absurd hk (h2 x (Array.mem_toList_iff.2 (Array.mem_of_getElem? hx)))
    refine ⟨{ W with heap := W.heap.setIfInBounds b (.map (es.push { key := .int .i64 i, val := z, born := clock }) (clock + 1)) }, clock, by simp [Instr.mapEntry, run_underlying ht, MapKept.run_getObj_map hb, run_checkKey hk hki, run_findKey hk h1, MapKept.run_setObj_map _ hb, Result.andThen, hz, hn, goInt], turned_map hb, ⟨_, _, (heap_set hb).1, stamped_push hs h2, ?_, ?_⟩, _, _, (heap_set hb).1, es.size, _, Array.getElem?_push_size, rfl, rfl⟩
    · intro x hx
      simp only [Array.toList_push, List.mem_append, List.mem_singleton] at hx
      rcases hx with hx | rfl
      · exact hks x hx
      · exact hki
    · intro i' v'
      unfold upd
      rw [hn]
      constructor
      · intro hv
        split at hv
        · rename_i hi
          subst hi
          obtain rfl := Option.some.inj hv
          exact ⟨es.size, _, Array.getElem?_push_size, rfl, rfl⟩
        · obtain ⟨k, x, hx, hk, hv⟩ := (hf i' v').1 hv
          have hlt : k < es.size := (Array.getElem?_eq_some_iff.1 hx).1
          exact ⟨k, x, by rw [Array.getElem?_push, if_neg (by omega)]; exact hx, hk, hv⟩
      · rintro ⟨k, x, hx, hk, hv⟩
        rw [Array.getElem?_push] at hx
        split at hx
        · obtain rfl := Option.some.inj hx
          obtain rfl : i = i' := by injection hk
          rw [if_pos rfl]
          exact congrArg some hv
        · have hne : i' ≠ i := by
            rintro rfl
            exact h2 x (Array.mem_toList_iff.2 (Array.mem_of_getElem? hx)) hk
          rw [if_neg hne]
          exact (hf i' v').2 ⟨k, x, hx, hk, hv⟩
  · have hj : es[j]? = some e := by simpa using h2
    have hsome : f i = some e.val := (hf i e.val).2 ⟨j, e, hj, h3, rfl⟩
    have hkey : ∀ e', es[j]? = some e' → ({ e' with key := .int .i64 i } : MapEntry).key = e'.key := fun e' he' => by rw [hj] at he'; cases he'; exact h3.symm
    refine ⟨{ W with heap := W.heap.setIfInBounds b (.map (es.modify j fun e => { e with key := .int .i64 i }) clock) }, e.born, by simp [Instr.mapEntry, run_underlying ht, MapKept.run_getObj_map hb, run_checkKey hk hki, run_findKey hk h1, hj, h3, run_keyThatStays hki, MapKept.run_setObj_map _ hb, Result.andThen, hsome, goInt], turned_map hb,
      ⟨_, _, (heap_set hb).1, stamped_modify hs _ _ (fun _ _ => rfl) (fun e' _ he' => hkey e' he'), isKey_modify hks _ _ hkey, ?_⟩,
      _, _, (heap_set hb).1, j, { e with key := .int .i64 i }, by rw [Array.getElem?_modify, if_pos rfl, hj]; rfl, rfl, rfl⟩
    intro i' v'
    unfold upd
    rw [hsome]
    constructor
    · intro hv
      split at hv
      · rename_i hi
        subst hi
        obtain rfl := Option.some.inj hv
        exact ⟨j, { e with key := .int .i64 i' }, by rw [Array.getElem?_modify, if_pos rfl, hj]; rfl, rfl, rfl⟩
      · rename_i hi
        obtain ⟨k, x, hx, hk, hv⟩ := (hf i' v').1 hv
        refine ⟨k, x, ?_, hk, hv⟩
        rw [Array.getElem?_modify, if_neg]
        · exact hx
        · rintro rfl
          rw [hj] at hx
          cases hx
          rw [h3] at hk
          injection hk with _ hk
          exact hi hk.symm
    · rintro ⟨k, x, hx, hk, hv⟩
      rw [Array.getElem?_modify] at hx
      split at hx
      · rename_i hjk
        subst hjk
        rw [hj] at hx
        obtain rfl := Option.some.inj hx
        obtain rfl : i = i' := by injection hk
        rw [if_pos rfl]
        exact congrArg some hv
      · rename_i hjk
        have hne : i' ≠ i := by
          rintro rfl
          exact hjk (key_once hs hj hx (h3.trans hk.symm))
        rw [if_neg hne]
        exact (hf i' v').2 ⟨k, x, hx, hk, hv⟩

theorem MapAt.entryStore (h : MapAt W b f) {i : Int} {stamp : Nat} (he : EntryAt W b i stamp) (v : Value) :
    ∃ W', (Instr.entryStore t (.map (some b)) (.int .i64 (stamp : Nat)) v).run P W = .ok () W' ∧ W.mapTurned W' b ∧ MapAt W' b (upd f i v) := by
  obtain ⟨es, clock, hb, hs, hks, hf⟩ := h
  obtain ⟨es2, clock2, hb2, j, e, hj, h3, hborn⟩ := he
  rw [hb] at hb2
  cases hb2
  have hfi : es.findIdx? (fun e => (e.born : Int) == (stamp : Nat)) = some j := by
    rw [Array.findIdx?_eq_some_iff_getElem]
    have hlt : j < es.size := (Array.getElem?_eq_some_iff.1 hj).1
    have hej : es[j] = e := (Array.getElem?_eq_some_iff.1 hj).2
    refine ⟨hlt, by rw [hej, hborn]; simp, fun k hk => ?_⟩
    have hne : es[k].born ≠ e.born := fun h => by
      have := born_once hs (Array.getElem?_eq_getElem (by omega)) hj h
      omega
    rw [hborn] at hne
    simp; omega
  refine ⟨{ W with heap := W.heap.setIfInBounds b (.map (es.modify j fun e => { e with val := v }) clock) }, by simp [Instr.entryStore, MapKept.run_getObj_map hb, Result.andThen, asInt, asIntOf, hfi, MapKept.run_setObj_map _ hb], turned_map hb, _, _, (heap_set hb).1,
    stamped_modify hs _ _ (fun _ _ => rfl) (fun _ _ _ => rfl), isKey_modify hks _ _ (fun _ _ => rfl), ?_⟩
  intro i' v'
  unfold upd
  constructor
  · intro hv
    split at hv
    · rename_i hi
      subst hi
      obtain rfl := Option.some.inj hv
      exact ⟨j, { e with val := v }, by rw [Array.getElem?_modify, if_pos rfl, hj]; rfl, h3, rfl⟩
    · rename_i hi
      obtain ⟨k, x, hx, hk, hv⟩ := (hf i' v').1 hv
      refine ⟨k, x, ?_, hk, hv⟩
      rw [Array.getElem?_modify, if_neg]
      · exact hx
      · rintro rfl
        rw [hj] at hx
        cases hx
        rw [h3] at hk
        injection hk with _ hk
        exact hi hk.symm
  · rintro ⟨k, x, hx, hk, hv⟩
    rw [Array.getElem?_modify] at hx
    split at hx
    · rename_i hjk
      subst hjk
      rw [hj] at hx
      obtain rfl := Option.some.inj hx
      obtain rfl : i = i' := by
        have : e.key = .int .i64 i' := hk
        rw [h3] at this
        injection this
      rw [if_pos rfl]
      exact congrArg some hv
    · rename_i hjk
      have hne : i' ≠ i := by
        rintro rfl
        exact hjk (key_once hs hj hx (h3.trans hk.symm))
      rw [if_neg hne]
      exact (hf i' v').2 ⟨k, x, hx, hk, hv⟩
end
end Go.Proofs.Ytmaaljfcnnlnpaa
