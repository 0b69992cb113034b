/-
  The walk of entry.Lay.
-/
import Derived.Test.YtmaaljfcnnlnpaaEntry1
namespace Go.Proofs.Ytmaaljfcnnlnpaa
open Go.RowKit

/-- An entry's cells in block g. -/
structure EB (W : World) (g : Nat) (k : Int) (st : Nat) (L : List UInt8) (X : World) : Prop where
  c0 : X.cell? ⟨g, 0, none⟩ = some (.int .i64 k)
  c1 : X.cell? ⟨g, 1, none⟩ = some (.int .u32 st)
  c2 : X.cell? ⟨g, 2, none⟩ = some (.string ⟨L.toArray⟩)
  below : Below W.heap.size W X
theorem EB.step {W X Y : World} {g : Nat} {k : Int} {st : Nat} {L : List UInt8} (h : EB W g k st L X) (hb : Below X.heap.size X Y) : EB W g k st L Y :=
  ⟨cell_step h.c0 hb, cell_step h.c1 hb, cell_step h.c2 hb, h.below.trans (hb.mono h.below.size)⟩
theorem EB.new {W X : World} {g : Nat} {k : Int} {st : Nat} {L : List UInt8} (h : EB W g k st L X) (o : Obj) : EB W g k st L (X.alloc o) := h.step ((Below.refl _ _).alloc (Nat.le_refl _) _)
theorem EB.start (W : World) (k : Int) (st : Nat) (L : List UInt8) (t : TypeId) : EB W W.heap.size k st L (W.alloc (.cells #[.int .i64 k, .int .u32 st, .string ⟨L.toArray⟩] t)) :=
  ⟨by rw [World.cell?_alloc_new]; rfl, by rw [World.cell?_alloc_new]; rfl, by rw [World.cell?_alloc_new]; rfl, (Below.refl _ _).alloc (Nat.le_refl _) _⟩

/-- What an entry's record is. -/
def layE (k : Nat) (st : Nat) (L : List UInt8) : List UInt8 := UInt8.ofNat k :: (four st ++ L)

theorem layE_bytes (k st : Nat) (L : List UInt8) : ((⟨#[UInt8.ofNat k]⟩ : ByteArray) ++ (⟨(four st).toArray⟩ : ByteArray) ++ (⟨L.toArray⟩ : ByteArray)) = ⟨(layE k st L).toArray⟩ := by
  apply ByteArray.ext
  simp [layE]

theorem wp_conv {w : World} {o : Oper} {a : Act} {K : Act → World → Prop} {Q : Exit → Act → World → Prop} (s t : TypeId) (x : Operand) (ho : o.op = .convert s t x) (v u : Value) (hx : a.eval x = v) (hr : (convert s t v).run Try.prog w = .ok u w)
    (h : K (a.put o.dst u) w) : o.wp Try.prog a w K Q := by
  unfold Oper.wp execOp
  simp only [ho, hx, Sem.run_bind, hr, Result.andThen_ok, Sem.run_pure]
  exact h

theorem one_str {w : World} {b kn : Nat} (h : w.cell? ⟨b, 0, none⟩ = some (.int .u8 (kn : Int))) (hk : kn < 256) : (convert 25 9 (.slice (some ⟨b, 0, none⟩) 1 1)).run Try.prog w = .ok (.string ⟨[UInt8.ofNat kn].toArray⟩) w := by
  refine run_bytes_str (bs := [UInt8.ofNat kn]) (fun j hj => ?_) rfl
  obtain rfl : j = 0 := by simpa using hj
  rw [Nat.add_zero, h]
  simp [bv, UInt8.toNat_ofNat', Nat.mod_eq_of_lt hk]

set_option maxRecDepth 100000 in
set_option maxHeartbeats 4000000 in
theorem elay_no (k : Int) (st : Nat) (L : List UInt8) (hL : L.length ≤ maxLen) (h : entR k L = false) (W : World) :
    Calls Try.prog 41 #[.agg #[.int .i64 k, .int .u32 st, .string ⟨L.toArray⟩]] W fun r w' => r = .returned (.tuple #[.string ⟨#[]⟩, .int .i64 1]) ∧ Below W.heap.size W w' := by
  have R := Lib.hid (fun X => eright k st L hL X)
  rw [h] at R
  go_enter Try.func41, Try.ntmps41
  go_upto_region 1 with fail
  refine wp_gate (fun X => EB W W.heap.size k st L X) (EB.start W k st L 50) ?_
  intro X0 hX
  have HX := Lib.hid hX
  have c0 := hX.c0
  have c1 := hX.c1
  have c2 := hX.c2
  clear hX
  go_wp2_with fail
  refine (R.out _).mono ?_
  rintro r w1 ⟨rfl, hb⟩
  have HX := Lib.hid (HX.out.step hb)
  clear hb
  go_wp2_with fail
  exact bodyPost_ret (v := .tuple #[.string ⟨#[]⟩, .int .i64 1]) (by simp [results, Try.results41, go_sem]) rfl ⟨rfl, HX.out.below⟩

set_option maxRecDepth 100000 in
set_option maxHeartbeats 4000000 in
theorem elay_yes (kn : Nat) (hk : kn < 256) (st : Nat) (hst : st < 4294967296) (L : List UInt8) (hL : L.length ≤ 1000) (h : entR (kn : Int) L = true) (W : World) :
    Calls Try.prog 41 #[.agg #[.int .i64 (kn : Int), .int .u32 st, .string ⟨L.toArray⟩]] W fun r w' => r = .returned (.tuple #[.string ⟨(layE kn st L).toArray⟩, .int .i64 0]) ∧ Below W.heap.size W w' := by
  have R := Lib.hid (fun X => eright kn st L (by unfold maxLen; omega) X)
  rw [h] at R
  have F4 := Lib.hid (fun X => four_any st hst X)
  have hln : ¬ 9223372036854775807 < 1 + (four st).length + L.length := by
    have : (four st).length = 4 := rfl
    omega
  have hw8 : IntKind.u8.wrap (kn : Int) = kn := by rw [IntKind.wrap_u8]; omega
  have HY := Lib.hid (layE_bytes kn st L)
  go_enter Try.func41, Try.ntmps41
  go_upto_region 1 with fail
  refine wp_gate (fun X => EB W W.heap.size kn st L X) (EB.start W kn st L 50) ?_
  intro X0 hX
  have HX := Lib.hid hX
  have c0 := hX.c0
  have c1 := hX.c1
  have c2 := hX.c2
  clear hX
  go_wp2_with fail
  refine (R.out _).mono ?_
  rintro r w1 ⟨rfl, hb⟩
  have HX := Lib.hid (HX.out.step hb)
  clear hb c0 c1 c2 R
  go_upto_region 3 with fail
  refine wp_region_held_drew (S := EB W W.heap.size kn st L) (by kernel_rfl) (HX.out.step (Below.refl _ _).drew) (fun hHeld => ?_)
  generalize w1.drew = X1 at *
  have H1 := Lib.hid hHeld
  clear hHeld
  refine wpAnyH_take (i := 0) (v := .pointer (some ⟨W.heap.size, 0, none⟩)) rfl (by kernel_rfl) (by kernel_rfl) (by kernel_rfl) (fun _ _ _ h => h) (Or.inl ⟨by rfl, by intro w _; go_simp⟩) H1.out ?_
  simp only [Act.put, List.setIfInBounds_toArray]
  refine wpAnyH_take (i := 1) (v := .int .i64 (kn : Int)) rfl (by kernel_rfl) (by kernel_rfl) (by kernel_rfl) (fun _ _ _ h => h) (Or.inl ⟨by rfl, by intro w hS; have c0 := hS.c0; clear hS; go_simp⟩) H1.out ?_
  simp only [Act.put]
  refine wpAnyH_take (i := 2) (v := .int .u8 (kn : Int)) rfl (by kernel_rfl) (by kernel_rfl) (by kernel_rfl) (fun _ _ _ h => h) (Or.inl ⟨by rfl, by intro w hS; clear hS; go_simp⟩) H1.out ?_
  simp only [Act.put]
  refine wpAnyH_take (i := 5) (v := .pointer (some ⟨W.heap.size, 1, none⟩)) rfl (by kernel_rfl) (by kernel_rfl) (by kernel_rfl) (fun _ _ _ h => h) (Or.inl ⟨by rfl, by intro w _; go_simp⟩) H1.out ?_
  simp only [Act.put]
  refine wpAnyH_take (i := 6) (v := .int .u32 st) rfl (by kernel_rfl) (by kernel_rfl) (by kernel_rfl) (fun _ _ _ h => h) (Or.inl ⟨by rfl, by intro w hS; have c1 := hS.c1; clear hS; go_simp⟩) H1.out ?_
  simp only [Act.put]
  refine wpAnyH_take (i := 9) (v := .pointer (some ⟨W.heap.size, 2, none⟩)) rfl (by kernel_rfl) (by kernel_rfl) (by kernel_rfl) (fun _ _ _ h => h) (Or.inl ⟨by rfl, by intro w _; go_simp⟩) H1.out ?_
  simp only [Act.put]
  refine wpAnyH_take (i := 10) (v := .string ⟨L.toArray⟩) rfl (by kernel_rfl) (by kernel_rfl) (by kernel_rfl) (fun _ _ _ h => h) (Or.inl ⟨by rfl, by intro w hS; have c2 := hS.c2; clear hS; go_simp⟩) H1.out ?_
  simp only [Act.put]
  refine wpAnyH_ready (rs := [3, 7]) (by kernel_rfl) (by simp) ?_
  refine AllReadyH.cons rfl (fun K hK => ?_) (AllReadyH.cons rfl (fun K hK => ?_) AllReadyH.nil)
  · go_simp
    refine hK.out _ _ (H1.out.new _) (fun _ => ?_)
    clear hK K
    have HN := Lib.hid (show (X1.alloc (.cells #[.int .u8 (kn : Int)] 5)).cell? ⟨X1.heap.size, 0, none⟩ = some (.int .u8 (kn : Int)) from by rw [World.cell?_alloc_new]; rfl)
    have H2 := Lib.hid (H1.out.new (.cells #[.int .u8 (kn : Int)] 5))
    generalize X1.heap.size = b5 at *
    generalize X1.alloc (.cells #[.int .u8 (kn : Int)] 5) = X2 at *
    refine wpAnyH_ready (rs := [4, 7]) (by kernel_rfl) (by simp) ?_
    refine AllReadyH.cons rfl (fun K hK => ?_) (AllReadyH.cons rfl (fun K hK => ?_) AllReadyH.nil)
    · rw [if_pos (by rfl)]
      refine wp_conv 25 9 _ (by rfl) _ _ (by rfl) (one_str HN.out hk) ?_
      simp only [Act.put, List.setIfInBounds_toArray]
      refine hK.out _ _ H2.out (fun _ => ?_)
      clear hK K
      refine wpAnyH_ready (rs := [7]) (by kernel_rfl) (by simp) ?_
      refine AllReadyH.cons rfl (fun K hK => ?_) AllReadyH.nil
      go_simp
      refine (F4.out _).mono ?_
      rintro e X3 ⟨rfl, hb⟩
      refine hK.out _ _ (H2.out.step hb) (fun _ => ?_)
      clear hK K
      have H3 := Lib.hid (H2.out.step hb)
      clear hb
      refine wpAnyH_ready (rs := [8]) (by kernel_rfl) (by simp) ?_
      refine AllReadyH.cons rfl (fun K hK => ?_) AllReadyH.nil
      go_simp
      refine hK.out _ _ H3.out (fun _ => ?_)
      clear hK K
      refine wpAnyH_ready (rs := [11]) (by kernel_rfl) (by simp) ?_
      refine AllReadyH.cons rfl (fun K hK => ?_) AllReadyH.nil
      go_simp
      refine hK.out _ _ H3.out (fun _ => ?_)
      clear hK K
      refine wpAnyH_ready (rs := [12]) (by kernel_rfl) (by simp) ?_
      refine AllReadyH.cons rfl (fun K hK => ?_) AllReadyH.nil
      go_simp
      refine hK.out _ _ H3.out (fun _ => ?_)
      clear hK K
      refine wpAnyH_ready (rs := [13]) (by kernel_rfl) (by simp) ?_
      refine AllReadyH.cons rfl (fun K hK => ?_) AllReadyH.nil
      go_simp
      refine hK.out _ _ H3.out (fun _ => ?_)
      clear hK K
      refine wpAnyH_done (by kernel_rfl) ?_ _
      go_wp2_with fail
      exact bodyPost_ret (v := .tuple #[.string ⟨(layE kn st L).toArray⟩, .int .i64 0]) (by rw [← HY.out]; simp [results, Try.results41, go_sem]) rfl ⟨rfl, H3.out.below⟩
    · go_simp
      refine (F4.out _).mono ?_
      rintro e X3 ⟨rfl, hb⟩
      refine hK.out _ _ (H2.out.step hb) (fun _ => ?_)
      clear hK K
      have H3 := Lib.hid (H2.out.step hb)
      have HN := Lib.hid (cell_step HN.out hb)
      clear hb
      refine wpAnyH_ready (rs := [4]) (by kernel_rfl) (by simp) ?_
      refine AllReadyH.cons rfl (fun K hK => ?_) AllReadyH.nil
      rw [if_pos (by rfl)]
      refine wp_conv 25 9 _ (by rfl) _ _ (by rfl) (one_str HN.out hk) ?_
      simp only [Act.put, List.setIfInBounds_toArray]
      refine hK.out _ _ H3.out (fun _ => ?_)
      clear hK K
      refine wpAnyH_ready (rs := [8]) (by kernel_rfl) (by simp) ?_
      refine AllReadyH.cons rfl (fun K hK => ?_) AllReadyH.nil
      go_simp
      refine hK.out _ _ H3.out (fun _ => ?_)
      clear hK K
      refine wpAnyH_ready (rs := [11]) (by kernel_rfl) (by simp) ?_
      refine AllReadyH.cons rfl (fun K hK => ?_) AllReadyH.nil
      go_simp
      refine hK.out _ _ H3.out (fun _ => ?_)
      clear hK K
      refine wpAnyH_ready (rs := [12]) (by kernel_rfl) (by simp) ?_
      refine AllReadyH.cons rfl (fun K hK => ?_) AllReadyH.nil
      go_simp
      refine hK.out _ _ H3.out (fun _ => ?_)
      clear hK K
      refine wpAnyH_ready (rs := [13]) (by kernel_rfl) (by simp) ?_
      refine AllReadyH.cons rfl (fun K hK => ?_) AllReadyH.nil
      go_simp
      refine hK.out _ _ H3.out (fun _ => ?_)
      clear hK K
      refine wpAnyH_done (by kernel_rfl) ?_ _
      go_wp2_with fail
      exact bodyPost_ret (v := .tuple #[.string ⟨(layE kn st L).toArray⟩, .int .i64 0]) (by rw [← HY.out]; simp [results, Try.results41, go_sem]) rfl ⟨rfl, H3.out.below⟩
  · go_simp
    refine (F4.out _).mono ?_
    rintro e X2 ⟨rfl, hb⟩
    refine hK.out _ _ (H1.out.step hb) (fun _ => ?_)
    clear hK K
    have H2 := Lib.hid (H1.out.step hb)
    clear hb
    refine wpAnyH_ready (rs := [3]) (by kernel_rfl) (by simp) ?_
    refine AllReadyH.cons rfl (fun K hK => ?_) AllReadyH.nil
    go_simp
    refine hK.out _ _ (H2.out.new _) (fun _ => ?_)
    clear hK K
    have HN := Lib.hid (show (X2.alloc (.cells #[.int .u8 (kn : Int)] 5)).cell? ⟨X2.heap.size, 0, none⟩ = some (.int .u8 (kn : Int)) from by rw [World.cell?_alloc_new]; rfl)
    have H3 := Lib.hid (H2.out.new (.cells #[.int .u8 (kn : Int)] 5))
    generalize X2.heap.size = b5 at *
    generalize X2.alloc (.cells #[.int .u8 (kn : Int)] 5) = X3 at *
    refine wpAnyH_ready (rs := [4]) (by kernel_rfl) (by simp) ?_
    refine AllReadyH.cons rfl (fun K hK => ?_) AllReadyH.nil
    rw [if_pos (by rfl)]
    refine wp_conv 25 9 _ (by rfl) _ _ (by rfl) (one_str HN.out hk) ?_
    simp only [Act.put, List.setIfInBounds_toArray]
    refine hK.out _ _ H3.out (fun _ => ?_)
    clear hK K
    refine wpAnyH_ready (rs := [8]) (by kernel_rfl) (by simp) ?_
    refine AllReadyH.cons rfl (fun K hK => ?_) AllReadyH.nil
    go_simp
    refine hK.out _ _ H3.out (fun _ => ?_)
    clear hK K
    refine wpAnyH_ready (rs := [11]) (by kernel_rfl) (by simp) ?_
    refine AllReadyH.cons rfl (fun K hK => ?_) AllReadyH.nil
    go_simp
    refine hK.out _ _ H3.out (fun _ => ?_)
    clear hK K
    refine wpAnyH_ready (rs := [12]) (by kernel_rfl) (by simp) ?_
    refine AllReadyH.cons rfl (fun K hK => ?_) AllReadyH.nil
    go_simp
    refine hK.out _ _ H3.out (fun _ => ?_)
    clear hK K
    refine wpAnyH_ready (rs := [13]) (by kernel_rfl) (by simp) ?_
    refine AllReadyH.cons rfl (fun K hK => ?_) AllReadyH.nil
    go_simp
    refine hK.out _ _ H3.out (fun _ => ?_)
    clear hK K
    refine wpAnyH_done (by kernel_rfl) ?_ _
    go_wp2_with fail
    exact bodyPost_ret (v := .tuple #[.string ⟨(layE kn st L).toArray⟩, .int .i64 0]) (by rw [← HY.out]; simp [results, Try.results41, go_sem]) rfl ⟨rfl, H3.out.below⟩
end Go.Proofs.Ytmaaljfcnnlnpaa
