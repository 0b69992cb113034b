/-
  The walk of entry.Read, of a right record.
-/
import Derived.Test.YtmaaljfcnnlnpaaEntry2
import Derived.Test.YtmaaljfcnnlnpaaWs
import Derived.Test.YtmaaljfcnnlnpaaCrcLaw4
import Derived.Defers
import Derived.Recover
namespace Go.Proofs.Ytmaaljfcnnlnpaa
open Go.RowKit

set_option maxRecDepth 100000 in
set_option maxHeartbeats 2000000 in
theorem must_ok (e : Int) (W : World) : Calls Try.prog 88 #[.bool true, .int .i64 e] W fun r w' => r = .returned (.tuple #[]) ∧ W = w' := by
  go_enter Try.func88, Try.ntmps88
  go_wp2_with fail
  go_end0
  exact ⟨rfl, rfl⟩

set_option maxRecDepth 100000 in
set_option maxHeartbeats 2000000 in
theorem eread_idle (a b : Value) (w : World) : CallsD Try.prog 87 #[a, b] .returning w fun e u' w' => e = .returned (.tuple #[]) ∧ u' = .returning ∧ w' = w := by
  refine callsD_of_wpS Try.func87 rfl fun c₀ cs hu => ?_
  apply wpS_seq
  apply wpS_region
  simp [wpOpsS, go_sem, recoverD, hu, Try.ntmps87, Exit.thenS]
  apply wpS_seq
  apply wpS_region
  simp [wpOpsS, go_sem, Exit.thenS]
  refine wpS_cond (t := false) (by simp [Act.eval, Array.replicate]) ?_
  simp only [Bool.false_eq_true, if_false]
  refine wpS_of_wp (wp_skip ?_)
  cases c₀
  simp_all [bodyPostS, results, Try.results87]

theorem results_cells {fn : Func} {p q : Tmp} {ty uy : TypeId} (h : fn.results = #[.cell p ty, .cell q uy]) (tmps : Array Value) (w : World) (ad bd : Addr) (v x : Value) (hp : tmps.getD p undef = .pointer (some ad)) (hq : tmps.getD q undef = .pointer (some bd))
    (hl : (loadVar ty ad).run Try.prog w = .ok v w) (hx : (loadVar uy bd).run Try.prog w = .ok x w) : (results fn tmps).run Try.prog w = .ok (.tuple #[v, x]) w := by
  have hp' : tmps[p]?.getD undef = .pointer (some ad) := by simpa using hp
  have hq' : tmps[q]?.getD undef = .pointer (some bd) := by simpa using hq
  simp only [results, h]
  simp [hp', hq', asAddr, hl, hx]

/-- The two variables of the call's own. -/
structure ER (W X : World) (a b : Nat) (cs : List Value) (e : Int) : Prop where
  range : X.rangeAt a 0 cs
  there : X.there a 0 3
  c : X.cell? ⟨b, 0, none⟩ = some (.int .i64 e)
  f : X.frozen? ⟨b, 0, none⟩ = false
  ne : a ≠ b
  ga : W.heap.size ≤ a
  gb : W.heap.size ≤ b
  below : Below W.heap.size W X
section
variable {W X Y : World} {a b : Nat} {cs : List Value} {e : Int}
theorem ER.step (h : ER W X a b cs e) (hb : Below X.heap.size X Y) : ER W Y a b cs e := by
  have la : a < X.heap.size := by
    obtain ⟨v, hv⟩ := Option.isSome_iff_exists.1 (h.there 0 (by decide)).1
    exact cell_in hv
  have lb := cell_in h.c
  exact ⟨fun j v hv => (hb.cell (p := ⟨a, 0 + j, none⟩) la).trans (h.range j v hv), fun j hj => ⟨by rw [hb.cell (p := ⟨a, 0 + j, none⟩) la]; exact (h.there j hj).1, (hb.frozen (p := ⟨a, 0 + j, none⟩) la).trans (h.there j hj).2⟩, cell_step h.c hb, (hb.frozen (p := ⟨b, 0, none⟩) lb).trans h.f, h.ne, h.ga, h.gb, h.below.trans (hb.mono h.below.size)⟩
theorem ER.set (h : ER W X a b cs e) (vs : List Value) (hl : vs.length = 3) : ER W (X.setCells a 0 vs) a b vs e :=
  ⟨World.rangeAt_setCells_same _ _ _ _ (by rw [hl]; exact h.there), World.there_setCells h.there _ _ _, by
    have hr : X.rangeAt b 0 [.int .i64 e] := fun j v hv => by
      match j with
      | 0 => cases hv; exact h.c
      | j + 1 => cases hv
    have := World.rangeAt_setCells_apart hr a 0 vs (.inl (Ne.symm h.ne))
    exact this 0 _ rfl, by rw [World.frozen?_setCells]; exact h.f, h.ne, h.ga, h.gb, below_setCells h.ga _ _ _ h.below⟩
theorem ER.err (h : ER W X a b cs e) (x : Int) : ER W (X.setCell ⟨b, 0, none⟩ (.int .i64 x)) a b cs x :=
  ⟨fun j v hv => by rw [World.cell?_setCell_other _ _ _ _ (fun e9 => h.ne (by injection e9 with e1; exact e1.symm))]; exact h.range j v hv, there_one h.there _ _ (Ne.symm h.ne), World.cell?_setCell_same' _ _ _ (by rw [h.c]; rfl), frozen_one _ _ _ _ h.f, h.ne, h.ga, h.gb, h.below.setCell h.gb _⟩
theorem ER.load (h : ER W X a b cs e) (hl : cs.length = 3) : (loadVar 50 ⟨a, 0, none⟩).run Try.prog X = .ok (.agg cs.toArray) X :=
  run_loadVar_mid X a 0 50 cs _ h.range Try.underlying50 rfl (by rw [info50, hl])
end
theorem ER.start (W : World) (cs : List Value) (hl : cs.length = 3) (t u : TypeId) : ER W ((W.alloc (.cells cs.toArray t)).alloc (.cells #[.int .i64 0] u)) W.heap.size (W.heap.size + 1) cs 0 := by
  have hs : (W.alloc (.cells cs.toArray t)).heap.size = W.heap.size + 1 := by simp
  have hb : Below (W.alloc (.cells cs.toArray t)).heap.size (W.alloc (.cells cs.toArray t)) ((W.alloc (.cells cs.toArray t)).alloc (.cells #[.int .i64 0] u)) := (Below.refl _ _).alloc (Nat.le_refl _) _
  have la : W.heap.size < (W.alloc (.cells cs.toArray t)).heap.size := by omega
  refine ⟨fun j v hv => ?_, fun j hj => ⟨?_, ?_⟩, ?_, ?_, by omega, Nat.le_refl _, by omega, new2_below _ _ _⟩
  · rw [hb.cell (p := ⟨W.heap.size, 0 + j, none⟩) la, World.cell?_alloc_new, Nat.zero_add]
    simpa using hv
  · rw [hb.cell (p := ⟨W.heap.size, 0 + j, none⟩) la, World.cell?_alloc_new, Nat.zero_add]
    simp [hl, hj]
  · exact (hb.frozen (p := ⟨W.heap.size, 0 + j, none⟩) la).trans (World.frozen?_alloc_new _ _ _ _)
  · rw [← hs, World.cell?_alloc_new]; rfl
  · rw [← hs]; exact World.frozen?_alloc_new _ _ _ _

section
variable {W X : World} {a b : Nat} {cs : List Value} {e : Int} {ops : Array Oper} {rest : List Oper} {op : Oper} {ac : Act} {Q : Exit → Act → World → Prop}
theorem wpList_store50 (hgd : op.guard = none) (x y : Operand) (ho : op.op = .store 50 x y) (vs : List Value) (h : ER W X a b cs e) (hx : ac.eval x = .pointer (some ⟨a, 0, none⟩)) (hy : ac.eval y = .agg vs.toArray) (hl : vs.length = 3) (h1 : ∀ v ∈ vs, v.oneCell' = true)
    (hK : wpList Try.prog ops Q rest (ac.put op.dst undef) (X.setCells a 0 vs)) : wpList Try.prog ops Q (op :: rest) ac X :=
  wpList_store_mid hgd 50 x y ho a 0 vs.toArray hx hy (by rw [show vs.toArray.size = 3 from hl]; exact h.there) (by rw [info50, show vs.toArray.size = 3 from hl]) (all_oneCell_toArray h1) hK
theorem wpList_load50 (hgd : op.guard = none) (x : Operand) (ho : op.op = .load 50 x) (h : ER W X a b cs e) (hl : cs.length = 3) (hx : ac.eval x = .pointer (some ⟨a, 0, none⟩))
    (hK : wpList Try.prog ops Q rest (ac.put op.dst (.agg cs.toArray)) X) : wpList Try.prog ops Q (op :: rest) ac X :=
  wpList_load_mid hgd 50 x ho a 0 hx cs _ h.range Try.underlying50 rfl (by rw [info50, hl]) hK
end

set_option maxRecDepth 100000 in
set_option maxHeartbeats 4000000 in
theorem eread (kn : Nat) (hk : kn < 256) (st : Nat) (hst : st < 4294967296) (L : List UInt8) (hL : L.length ≤ 1000) (h : entR (kn : Int) L = true) (W : World) :
    Calls Try.prog 46 #[.string ⟨(layE kn st L).toArray⟩] W fun r w' => r = .returned (.tuple #[.agg #[.int .i64 (kn : Int), .int .u32 st, .string ⟨L.toArray⟩], .int .i64 0]) ∧ Below W.heap.size W w' := by
  have R := Lib.hid (fun X => eright kn st L (by unfold maxLen; omega) X)
  rw [h] at R
  have M := Lib.hid must_ok
  have hlen : (layE kn st L).length = 5 + L.length := by
    have : (four st).length = 4 := rfl
    simp only [layE, List.length_cons, List.length_append]
    omega
  have hsz : (⟨(layE kn st L).toArray⟩ : ByteArray).size = (layE kn st L).length := rfl
  have hix : ∀ W, (Instr.index 9 (.string ⟨(layE kn st L).toArray⟩) (.int .i64 0)).run Try.prog W = .ok (.int .u8 (kn : Int)) W := fun W => by
    rw [run_index_string W 9 _ .i64 0 Try.underlying9, dif_pos ⟨by omega, by rw [hsz, hlen]; omega⟩]
    show Result.ok (Value.int .u8 ((UInt8.ofNat kn).toNat : Nat)) W = _
    rw [show (UInt8.ofNat kn).toNat = kn by simp [UInt8.toNat_ofNat', Nat.mod_eq_of_lt hk]]
  have hs1 : ∀ W, (Instr.slice 9 (.string ⟨(layE kn st L).toArray⟩) (some (.int .i64 1)) (some (.int .i64 5)) none).run Try.prog W = .ok (.string ⟨(four st).toArray⟩) W := fun W => by
    rw [run_str_slice _ 1 5 (by decide) (by decide) (by rw [hsz, hlen]; omega) W, show (1 : Int).toNat = 1 from rfl, show (5 : Int).toNat = 1 + 4 from rfl, extract_mid]
    rfl
  have hs5 : ∀ W, (Instr.slice 9 (.string ⟨(layE kn st L).toArray⟩) (some (.int .i64 5)) none none).run Try.prog W = .ok (.string ⟨L.toArray⟩) W := fun W => by
    rw [run_str_from _ 5 (by decide) (by rw [hsz, hlen]; omega) W, show (5 : Int).toNat = 5 from rfl, extract_drop]
    rfl
  have hN : ∀ W, Calls Try.prog 35 #[.string ⟨(four st).toArray⟩] W fun e w' => e = .returned (.int .u32 st) ∧ W = w' := fun W => by
    refine (number_any ⟨(four st).toArray⟩ (show 4 ≤ maxLen by decide) W).mono ?_
    rintro e w' ⟨rfl, rfl⟩
    rw [show numP (four st) = st from by have := numP_four st hst []; simpa using this]
    exact ⟨rfl, rfl⟩
  have hge : (5 : Int) ≤ ((⟨(layE kn st L).toArray⟩ : ByteArray).size : Int) := by rw [hsz, hlen]; omega
  have hw : IntKind.i64.wrap (kn : Int) = kn := by rw [IntKind.wrap_i64]; omega
  have HN := Lib.hid hN
  clear hlen hsz hN
  generalize (⟨(layE kn st L).toArray⟩ : ByteArray) = s at *
  generalize (⟨(four st).toArray⟩ : ByteArray) = f4 at *
  have hmf : ∀ (fn : Fn) (first cap : Array Value) (w : World), (Instr.makeFunc fn first cap).run Try.prog w = .ok (.func fn first cap) w := fun _ _ _ _ => rfl
  go_enter_defers Try.func46, Try.ntmps46
  go_wp2_with fail
  refine calls_gate (fun X => ER W X W.heap.size (W.heap.size + 1) [.int .i64 0, .int .u32 0, .string ⟨#[]⟩] 0) (ER.start W _ rfl 50 36) ?_
  intro X0 hX
  have HX := Lib.hid hX
  clear hX
  refine (M.out _ _).mono ?_
  rintro r w1 ⟨rfl, rfl⟩
  go_upto_region 3 with fail
  haveI : Nonempty (WS (fun X => X = X0.drew)) := ⟨⟨X0.drew, rfl⟩⟩
  refine wp_region_ws_tail (fun X => X = X0.drew) 9 (by kernel_rfl) (by kernel_rfl) rfl ?_
  simp only [List.take_succ_cons, List.take_zero, List.drop_succ_cons, List.drop_zero]
  repeat (go_big_quiet_step ((go_at_call 35; exact ws_same (HN.out _))))
  refine wpQuiet_nil ?_
  intro w8 hw8
  obtain rfl : w8 = X0.drew := hw8
  have HX := Lib.hid (HX.out.step (Below.refl _ _).drew)
  clear this hix hs1 hs5 hw hge
  go_upto_region 4 with (refine wpList_store50 (W := W) (a := W.heap.size) (b := W.heap.size + 1) (cs := [.int .i64 0, .int .u32 0, .string ⟨#[]⟩]) (e := 0) (by rfl) (.tmp 2) (.tmp 17) (by rfl) [.int .i64 (kn : Int), .int .u32 st, .string ⟨L.toArray⟩] ?_ ?_ ?_ ?_ ?_ ?_; exact HX.out; rfl; rfl; rfl; simp [Value.oneCell'])
  have HX := Lib.hid (HX.out.set [.int .i64 (kn : Int), .int .u32 st, .string ⟨L.toArray⟩] rfl)
  generalize X0.drew.setCells W.heap.size 0 [.int .i64 (kn : Int), .int .u32 st, .string ⟨L.toArray⟩] = X1 at *
  go_wp2_with (refine wpList_load50 (W := W) (a := W.heap.size) (b := W.heap.size + 1) (cs := [.int .i64 (kn : Int), .int .u32 st, .string ⟨L.toArray⟩]) (e := 0) (by rfl) (.tmp 2) (by rfl) ?_ ?_ ?_ ?_; exact HX.out; rfl; rfl)
  refine (R.out _).mono ?_
  rintro r w2 ⟨rfl, hb⟩
  have HX := Lib.hid (HX.out.step hb)
  clear hb R
  go_wp2_with fail
  refine (M.out _ _).mono ?_
  rintro r w3 ⟨rfl, rfl⟩
  have HX2 := Lib.hid (HX.out.set [.int .i64 (kn : Int), .int .u32 st, .string ⟨L.toArray⟩] rfl)
  have c1 := HX2.out.c
  have f1 := HX2.out.f
  go_wp2_with (first
    | (refine wpList_load50 (W := W) (a := W.heap.size) (b := W.heap.size + 1) (cs := [.int .i64 (kn : Int), .int .u32 st, .string ⟨L.toArray⟩]) (e := 0) (by rfl) (.tmp 2) (by rfl) ?_ ?_ ?_ ?_; exact HX.out; rfl; rfl)
    | (refine wpList_store50 (W := W) (a := W.heap.size) (b := W.heap.size + 1) (cs := [.int .i64 (kn : Int), .int .u32 st, .string ⟨L.toArray⟩]) (e := 0) (by rfl) (.tmp 2) (.tmp 21) (by rfl) [.int .i64 (kn : Int), .int .u32 st, .string ⟨L.toArray⟩] ?_ ?_ ?_ ?_ ?_ ?_; exact HX.out; rfl; rfl; rfl; simp [Value.oneCell']))
  have HX := Lib.hid (HX2.out.err 0)
  clear c1 f1 HX2
  change bodyPostD _ _ _ _ _ ((w2.setCells W.heap.size 0 [.int .i64 (kn : Int), .int .u32 st, .string ⟨L.toArray⟩]).setCell ⟨W.heap.size + 1, 0, none⟩ (.int .i64 0))
  generalize (w2.setCells W.heap.size 0 [.int .i64 (kn : Int), .int .u32 st, .string ⟨L.toArray⟩]).setCell ⟨W.heap.size + 1, 0, none⟩ (.int .i64 0) = X3 at *
  have hl36 : (loadVar 36 ⟨W.heap.size + 1, 0, none⟩).run Try.prog X3 = .ok (.int .i64 0) X3 := by
    have c1 := HX.out.c
    simp [go_sem, c1]
  refine leaves_cons (f := 87) (args := #[.pointer (some ⟨W.heap.size, 0, none⟩), .pointer (some ⟨W.heap.size + 1, 0, none⟩)]) (by simp) (by simp [go_sem]) ?_
  refine (eread_idle _ _ _).mono ?_
  rintro e u' w'' ⟨rfl, rfl, rfl⟩
  exact ⟨_, results_cells (p := 2) (q := 3) (ty := 50) (uy := 36) rfl _ _ ⟨W.heap.size, 0, none⟩ ⟨W.heap.size + 1, 0, none⟩ _ _ rfl rfl (HX.out.load rfl) hl36, rfl, HX.out.below⟩
end Go.Proofs.Ytmaaljfcnnlnpaa
