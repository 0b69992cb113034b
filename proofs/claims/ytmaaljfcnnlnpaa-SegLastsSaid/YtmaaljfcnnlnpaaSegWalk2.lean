/-
  The walk of a scan's stands.
-/
import Derived.Test.YtmaaljfcnnlnpaaSegWalk1
namespace Go.Proofs.Ytmaaljfcnnlnpaa
open Go.RowKit

theorem i64_of_u32 (n : Nat) (h : n < 4294967296) : IntKind.i64.wrap (n : Int) = n := by rw [IntKind.wrap_i64]; omega

/-- A page in a block of its own. -/
structure PX (w W : World) (g : Nat) (p : Pg) : Prop where
  below : Below w.heap.size w W
  pg : PgAt W g 0 p
  lt : g < W.heap.size
theorem PX.step {w W W' : World} {g : Nat} {p : Pg} (h : PX w W g p) (hb : Below W.heap.size W W') : PX w W' g p :=
  ⟨h.below.trans (hb.mono h.below.size), h.pg.below hb h.lt, Nat.lt_of_lt_of_le h.lt hb.size⟩
theorem PX.drew {w W : World} {g : Nat} {p : Pg} (h : PX w W g p) : PX w W.drew g p := h.step (Below.refl _ _).drew
theorem PX.boxed (w : World) (p : Pg) (t : TypeId) (n : Nat) : PX w ((w.alloc (.cells #[.int .u32 p.ep, .int .u32 p.nu, .int .i64 p.ki, .bool p.fi, .bool p.la, .string ⟨p.da.toArray⟩] t)).drewN n) w.heap.size p := by
  have h : PX w (w.alloc (.cells #[.int .u32 p.ep, .int .u32 p.nu, .int .i64 p.ki, .bool p.fi, .bool p.la, .string ⟨p.da.toArray⟩] t)) w.heap.size p := by
    refine ⟨(Below.refl _ _).alloc (Nat.le_refl _) _, ?_, by simp⟩
    refine ⟨?_, ?_, ?_, ?_, ?_, ?_⟩ <;> rw [World.cell?_alloc_new] <;> rfl
  exact h.step ((Below.refl _ _).drewN n)

set_option maxRecDepth 100000 in
set_option maxHeartbeats 1000000 in
theorem stands_nu {W : World} {b : Nat} {s : Sc} {m : Nat} {rv : Value} (h : ScAt W b s m rv) (i : Nat) (hi : i ≤ 1000000) (p : Pg) (hn : p.nu < 4294967296) (hne : p.nu ≠ i) :
    Calls Try.prog 106 #[.pointer (some ⟨b, 0, none⟩), .int .i64 i, .agg #[.int .u32 p.ep, .int .u32 p.nu, .int .i64 p.ki, .bool p.fi, .bool p.la, .string ⟨p.da.toArray⟩]] W fun r w' => r = .returned (.bool false) ∧ Below W.heap.size W w' := by
  obtain ⟨ep, nu, ki, fi, la, da⟩ := p
  dsimp only at hn hne
  have c6 := h.c6
  clear h
  have h1 : ((nu : Int) != (i : Int)) = true := by rw [bne_iff_ne]; omega
  have hw := i64_of_u32 nu hn
  go_enter Try.func106, Try.ntmps106
  go_wp2_with fail
  go_quiet (fail)
  go_wp2_with fail
  go_ret
  exact ⟨rfl, ((Below.refl _ _).alloc (Nat.le_refl _) _).drewN _⟩

set_option maxRecDepth 100000 in
set_option maxHeartbeats 1000000 in
theorem stands_ep' {W : World} {b : Nat} {s : Sc} {m : Nat} {rv : Value} (h : ScAt W b s m rv) (i : Nat) (hi : i ≤ 1000000) (p : Pg) (hn : p.nu = i) (hlt : p.ep < s.ep) :
    Calls Try.prog 106 #[.pointer (some ⟨b, 0, none⟩), .int .i64 i, .agg #[.int .u32 p.ep, .int .u32 p.nu, .int .i64 p.ki, .bool p.fi, .bool p.la, .string ⟨p.da.toArray⟩]] W fun r w' => r = .returned (.bool false) ∧ Below W.heap.size W w' := by
  obtain ⟨ep, nu, ki, fi, la, da⟩ := p
  dsimp only at hn hlt
  subst hn
  have c6 := h.c6
  have hb := h.lt
  clear h
  generalize s.ep = e at *
  have h1 : ((nu : Int) != (nu : Int)) = false := by simp
  have h2 : decide ((ep : Int) < (e : Int)) = true := by simp; omega
  have hw := i64_of_u32 nu (by omega)
  go_enter Try.func106, Try.ntmps106
  go_wp2_with fail
  go_quiet (fail)
  go_wp2_with fail
  go_ret
  exact ⟨rfl, ((Below.refl _ _).alloc (Nat.le_refl _) _).drewN _⟩

set_option maxRecDepth 100000 in
set_option maxHeartbeats 1000000 in
theorem stands_data {W : World} {b : Nat} {s : Sc} {m : Nat} {rv : Value} (h : ScAt W b s m rv) (i : Nat) (hi : i ≤ 1000000) (p : Pg) (hn : p.nu = i) (hle : s.ep ≤ p.ep) (h16 : i % 16 ≠ 0) :
    Calls Try.prog 106 #[.pointer (some ⟨b, 0, none⟩), .int .i64 i, .agg #[.int .u32 p.ep, .int .u32 p.nu, .int .i64 p.ki, .bool p.fi, .bool p.la, .string ⟨p.da.toArray⟩]] W fun r w' => r = .returned (.bool (p.ki == 2)) ∧ Below W.heap.size W w' := by
  obtain ⟨ep, nu, ki, fi, la, da⟩ := p
  dsimp only at hn hle ⊢
  subst hn
  have c6 := h.c6
  have hb := h.lt
  clear h
  generalize s.ep = e at *
  have h1 : ((nu : Int) != (nu : Int)) = false := by simp
  have h2 : decide ((ep : Int) < (e : Int)) = false := by simp; omega
  have hw := i64_of_u32 nu (by omega)
  have H := Lib.hid (fun W => heads_no nu hi h16 W)
  clear h16
  go_enter Try.func106, Try.ntmps106
  go_wp2_with fail
  go_quiet (fail)
  go_wp2_with fail
  refine (H.out _).mono ?_
  rintro r w1 ⟨rfl, rfl⟩
  go_wp2_with fail
  go_ret
  exact ⟨rfl, ((Below.refl _ _).alloc (Nat.le_refl _) _).drewN _⟩

set_option maxRecDepth 100000 in
set_option maxHeartbeats 1000000 in
theorem stands_head1 {W : World} {b : Nat} {s : Sc} {m : Nat} {rv : Value} (h : ScAt W b s m rv) (i : Nat) (hi : i ≤ 1000000) (p : Pg) (hn : p.nu = i) (hle : s.ep ≤ p.ep) (h16 : i % 16 = 0) (hk : p.ki ≠ 1) :
    Calls Try.prog 106 #[.pointer (some ⟨b, 0, none⟩), .int .i64 i, .agg #[.int .u32 p.ep, .int .u32 p.nu, .int .i64 p.ki, .bool p.fi, .bool p.la, .string ⟨p.da.toArray⟩]] W fun r w' => r = .returned (.bool false) ∧ Below W.heap.size W w' := by
  obtain ⟨ep, nu, ki, fi, la, da⟩ := p
  dsimp only at hn hle hk ⊢
  subst hn
  have c6 := h.c6
  have hb := h.lt
  clear h
  generalize s.ep = e at *
  have h1 : ((nu : Int) != (nu : Int)) = false := by simp
  have h2 : decide ((ep : Int) < (e : Int)) = false := by simp; omega
  have hw := i64_of_u32 nu (by omega)
  have H := Lib.hid (fun W => heads_yes nu hi h16 W)
  have hk2 : (ki == 1) = false := by simpa using hk
  clear h16
  go_enter Try.func106, Try.ntmps106
  go_wp2_with fail
  go_quiet (fail)
  go_wp2_with fail
  refine (H.out _).mono ?_
  rintro r w1 ⟨rfl, rfl⟩
  clear h1 h2
  go_wp2_with fail
  go_quiet (fail)
  go_wp2_with fail
  go_ret
  exact ⟨rfl, (((Below.refl _ _).alloc (Nat.le_refl _) _).drewN _).drewN _⟩

set_option maxRecDepth 100000 in
set_option maxHeartbeats 1000000 in
theorem stands_head2 {W : World} {b : Nat} {s : Sc} {m : Nat} {rv : Value} (h : ScAt W b s m rv) (i : Nat) (hi : i ≤ 1000000) (p : Pg) (hn : p.nu = i) (hle : s.ep ≤ p.ep) (h16 : i % 16 = 0) (hk : p.ki = 1) :
    Calls Try.prog 106 #[.pointer (some ⟨b, 0, none⟩), .int .i64 i, .agg #[.int .u32 p.ep, .int .u32 p.nu, .int .i64 p.ki, .bool p.fi, .bool p.la, .string ⟨p.da.toArray⟩]] W fun r w' => r = .returned (.bool (p.da == headB i)) ∧ Below W.heap.size W w' := by
  obtain ⟨ep, nu, ki, fi, la, da⟩ := p
  dsimp only at hn hle hk ⊢
  subst hn
  subst hk
  have c6 := h.c6
  have hb := h.lt
  clear h
  generalize s.ep = e at *
  have h1 : ((nu : Int) != (nu : Int)) = false := by simp
  have h2 : decide ((ep : Int) < (e : Int)) = false := by simp; omega
  have hw := i64_of_u32 nu (by omega)
  have H := Lib.hid (fun W => heads_yes nu hi h16 W)
  have N := Lib.hid (fun W => segnum_any nu hi W)
  clear h16
  go_enter Try.func106, Try.ntmps106
  go_wp2_with fail
  go_quiet (fail)
  go_wp2_with fail
  refine (H.out _).mono ?_
  rintro r w1 ⟨rfl, rfl⟩
  clear h1 h2
  have HJ := Lib.hid (show PX W ((W.alloc (.cells #[.int .u32 ep, .int .u32 nu, .int .i64 1, .bool fi, .bool la, .string ⟨da.toArray⟩] 44)).drewN nq) W.heap.size ⟨ep, nu, 1, fi, la, da⟩ from PX.boxed W ⟨ep, nu, 1, fi, la, da⟩ 44 nq)
  go_wp2_with fail
  refine wp_gate (fun X => PX W X W.heap.size ⟨ep, nu, 1, fi, la, da⟩) HJ.out ?_
  intro w2 hJ
  have HJ := Lib.hid hJ.drew
  clear hJ
  generalize W.heap.size = g at *
  generalize hB : headB nu = hb' at *
  have HBE := Lib.hid hB
  clear hB
  have y2 : ∀ x : WS (fun X => PX W X g ⟨ep, nu, 1, fi, la, da⟩), x.w.cell? ⟨g, 2, none⟩ = some (.int .i64 1) := fun x => x.ok.pg.c2
  have y5 : ∀ x : WS (fun X => PX W X g ⟨ep, nu, 1, fi, la, da⟩), x.w.cell? ⟨g, 5, none⟩ = some (.string ⟨da.toArray⟩) := fun x => x.ok.pg.c5
  haveI : Nonempty (WS (fun X => PX W X g ⟨ep, nu, 1, fi, la, da⟩)) := ⟨⟨w2.drew, HJ.out⟩⟩
  refine wp_region_ws (fun X => PX W X g ⟨ep, nu, 1, fi, la, da⟩) (by kernel_rfl) (by kernel_rfl) HJ.out ?_
  repeat (go_big_quiet_step ((go_at_call 105; exact ws_call (fun _ _ h hb => h.step hb) (N.out _))))
  refine wpQuiet_nil ?_
  rintro _ ⟨⟨w3, hw⟩, rfl⟩
  clear y2 y5 this
  go_wp2_with fail
  go_ret
  exact ⟨by rw [HBE.out]; rfl, hw.below⟩

theorem stands_any {W : World} {b : Nat} {s : Sc} {m : Nat} {rv : Value} (h : ScAt W b s m rv) (i : Nat) (hi : i ≤ 1000000) (p : Pg) (hn : p.nu < 4294967296) :
    Calls Try.prog 106 #[.pointer (some ⟨b, 0, none⟩), .int .i64 i, .agg #[.int .u32 p.ep, .int .u32 p.nu, .int .i64 p.ki, .bool p.fi, .bool p.la, .string ⟨p.da.toArray⟩]] W fun r w' => r = .returned (.bool (s.stands i p)) ∧ Below W.heap.size W w' := by
  by_cases h1 : p.nu = i
  · by_cases h2 : s.ep ≤ p.ep
    · by_cases h16 : i % 16 = 0
      · by_cases hk : p.ki = 1
        · have e : s.stands i p = (p.da == headB i) := by
            unfold Sc.stands
            rw [if_pos ⟨h1, h2⟩, if_pos h16]
            simp [hk]
          rw [e]
          exact stands_head2 h i hi p h1 h2 h16 hk
        · have e : s.stands i p = false := by
            unfold Sc.stands
            rw [if_pos ⟨h1, h2⟩, if_pos h16]
            simp [hk]
          rw [e]
          exact stands_head1 h i hi p h1 h2 h16 hk
      · have e : s.stands i p = (p.ki == 2) := by
          unfold Sc.stands
          rw [if_pos ⟨h1, h2⟩, if_neg h16]
        rw [e]
        exact stands_data h i hi p h1 h2 h16
    · have e : s.stands i p = false := stands_ep s i p (by omega)
      rw [e]
      exact stands_ep' h i hi p h1 (by omega)
  · have e : s.stands i p = false := by
      unfold Sc.stands
      rw [if_neg (fun h => h1 h.1)]
    rw [e]
    exact stands_nu h i hi p hn h1
end Go.Proofs.Ytmaaljfcnnlnpaa
