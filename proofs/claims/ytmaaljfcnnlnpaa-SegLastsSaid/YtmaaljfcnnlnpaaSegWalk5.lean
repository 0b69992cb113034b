/-
  The walks of a log's Open, and of what a log tells.
-/
import Derived.Test.YtmaaljfcnnlnpaaSegWalk4
namespace Go.Proofs.Ytmaaljfcnnlnpaa
open Go.RowKit

/-- A log in memory. -/
structure LgAt (W : World) (g d : Nat) (ep nx : Nat) (fz : Bool) : Prop where
  c0 : W.cell? ⟨g, 0, none⟩ = some (.pointer (some ⟨d, 0, none⟩))
  c1 : W.cell? ⟨g, 1, none⟩ = some (.int .u32 (ep : Int))
  c2 : W.cell? ⟨g, 2, none⟩ = some (.int .i64 (nx : Int))
  c3 : W.cell? ⟨g, 3, none⟩ = some (.bool fz)
  fr : ∀ i, W.frozen? ⟨g, i, none⟩ = false
  lt : g < W.heap.size

theorem LgAt.of_block {W W' : World} {g d ep nx : Nat} {fz : Bool} (h : LgAt W g d ep nx fz) (e : W'.heap[g]? = W.heap[g]?) (hlt : g < W'.heap.size) : LgAt W' g d ep nx fz :=
  ⟨(World.cell?_of_block (a := ⟨g, 0, none⟩) e).trans h.c0, (World.cell?_of_block (a := ⟨g, 1, none⟩) e).trans h.c1, (World.cell?_of_block (a := ⟨g, 2, none⟩) e).trans h.c2, (World.cell?_of_block (a := ⟨g, 3, none⟩) e).trans h.c3,
    fun i => (World.frozen?_of_block (a := ⟨g, i, none⟩) e).trans (h.fr i), hlt⟩
theorem LgAt.below {W W' : World} {g d ep nx : Nat} {fz : Bool} (h : LgAt W g d ep nx fz) (hb : Below W.heap.size W W') : LgAt W' g d ep nx fz := h.of_block (hb.block g h.lt) (Nat.lt_of_lt_of_le h.lt hb.size)

theorem LgAt.boxed (w : World) (d ep nx : Nat) (fz : Bool) (t : TypeId) : LgAt (w.alloc (.cells #[.pointer (some ⟨d, 0, none⟩), .int .u32 (ep : Int), .int .i64 (nx : Int), .bool fz] t)) w.heap.size d ep nx fz := by
  refine ⟨?_, ?_, ?_, ?_, fun i => World.frozen?_alloc_new _ _ _ _, by simp⟩ <;> rw [World.cell?_alloc_new] <;> rfl

set_option maxHeartbeats 1000000 in
theorem next_any {W : World} {g d ep nx : Nat} {fz : Bool} (h : LgAt W g d ep nx fz) : Calls Try.prog 76 #[.pointer (some ⟨g, 0, none⟩)] W fun r w' => r = .returned (.int .i64 (nx : Int)) ∧ W = w' := by
  have c2 := h.c2
  go_enter Try.func76, Try.ntmps76
  go_wp2_with fail
  go_ret
  exact ⟨rfl, rfl⟩

set_option maxHeartbeats 1000000 in
theorem frozen_any {W : World} {g d ep nx : Nat} {fz : Bool} (h : LgAt W g d ep nx fz) : Calls Try.prog 78 #[.pointer (some ⟨g, 0, none⟩)] W fun r w' => r = .returned (.bool fz) ∧ W = w' := by
  have c3 := h.c3
  go_enter Try.func78, Try.ntmps78
  go_wp2_with fail
  go_ret
  exact ⟨rfl, rfl⟩

/-- What Open answers. -/
structure OpR (W X : World) (d m1 m2 : Nat) (v : Value) (D : Dk) (P N : Nat) (rv : Value) (g : Nat) : Prop where
  sc : ScR W X d m1 m2 v D P N rv
  lg : LgAt X g d (mostTo D.pgs N + 1) (stepTo D.pgs P N).next false
  ge : W.heap.size ≤ g
  ne : rv.ownBlock ≠ some g

theorem ScR.step {W X Y : World} {d m1 m2 : Nat} {v : Value} {D : Dk} {P N : Nat} {rv : Value} (h : ScR W X d m1 m2 v D P N rv) (hb : Below X.heap.size X Y) : ScR W Y d m1 m2 v D P N rv :=
  ⟨h.dk.elim fun rd h => ⟨rd, h.below hb⟩, h.fr.trans (DFr.of_below hb _ _ _ _), ownsRow_of_block h.row (fun _ hg => hb.block _ (ownsRow_ge h.row hg).2)⟩

set_option maxRecDepth 100000 in
set_option maxHeartbeats 4000000 in
theorem open_any {W : World} {d m1 m2 : Nat} {v : Value} {D : Dk} (h : DkAt W d m1 m2 v D) (hdn : D.down = false) (N : Nat) (hN : D.size = N) (h32 : 32 ≤ N) (hN2 : N ≤ 1024) (hlen : D.loose.length ≤ 100000) (P : Nat) (hP : N / 16 * 16 = P) (hmo : mostTo D.pgs N < 1000000) :
    Calls Try.prog 74 #[.pointer (some ⟨d, 0, none⟩)] W fun r w' => ∃ rv g, r = .returned (.tuple #[.pointer (some ⟨g, 0, none⟩), rv, .int .i64 0]) ∧ OpR W w' d m1 m2 v D P N rv g := by
  have S := Lib.hid (scan_any h hdn N hN h32 hN2 hlen P hP)
  generalize hmo' : mostTo D.pgs N = mo at *
  have HMO := Lib.hid hmo'
  clear hmo' h hdn hN h32 hN2 hlen hP
  have e1 : IntKind.u32.wrap ((mo : Int) + 1) = ((mo + 1 : Nat) : Int) := by rw [IntKind.wrap_u32]; omega
  have e2 : ((mo : Int) == 4294967295) = false := by simp; omega
  have E1 := Lib.hid e1
  have E2 := Lib.hid e2
  clear e1 e2
  go_enter Try.func74, Try.ntmps74
  go_wp2_with fail
  refine S.out.mono ?_
  rintro r w1 ⟨rv, rfl, hR⟩
  have HR := Lib.hid hR
  clear hR S
  obtain ⟨ra, rc, hrv⟩ := ownsRow_form HR.out.row
  have HRV := Lib.hid hrv
  clear hrv
  have e1 := E1.out
  have e2 := E2.out
  go_wp2_with fail
  have hb := Lib.hid ((Below.refl _ w1).alloc (Nat.le_refl _) (.cells #[.pointer (some ⟨d, 0, none⟩), .int .u32 ((mo : Int) + 1), .int .i64 ((stepTo D.pgs P N).next : Int), .bool false] 152))
  refine bodyPost_ret (v := .tuple #[.pointer (some ⟨w1.heap.size, 0, none⟩), rv, .int .i64 0]) (by simp [results, Try.results74, go_sem]) rfl ⟨rv, _, rfl, HR.out.step hb.out, ?_, HR.out.fr.size, fun e => ?_⟩
  · rw [HMO.out]
    exact LgAt.boxed w1 d (mo + 1) _ false 152
  · have := (ownsRow_ge HR.out.row e).2
    omega

set_option maxRecDepth 100000 in
set_option maxHeartbeats 4000000 in
theorem scan_down {W : World} {d m1 m2 : Nat} {v : Value} {D : Dk} (h : DkAt W d m1 m2 v D) (hdn : D.down = true) (N : Nat) (hN : D.size = N) (h32 : 32 ≤ N) (hN2 : N ≤ 1024) :
    Calls Try.prog 77 #[.pointer (some ⟨d, 0, none⟩)] W fun r w' => r = .returned (.tuple #[.slice none 0 0, .int .i64 0, .int .u32 0, .int .i64 7]) ∧ DkAt w' d m1 m2 v D ∧ DFr W w' d m1 m2 v v := by
  have S := Lib.hid (fun X (hX : DkAt X d m1 m2 v D) => size_any hX)
  have hm : D.may 0 = 7 := by unfold Dk.may; rw [if_pos hdn]
  have R := Lib.hid (fun X (hX : DkAt X d m1 m2 v D) => dread_no hX 0 (by rw [hm]; decide))
  rw [hm] at R
  rw [hN] at S
  have H0 := Lib.hid h
  clear h hm hdn
  have hgt : decide ((0 : Int) < (N : Int)) = true := by simp; omega
  go_enter Try.func77, Try.ntmps77
  go_wp2_with fail
  refine (S.out _ H0.out).mono ?_
  rintro r w1 ⟨rfl, rfl⟩
  go_wp2_with fail
  refine calls_gate (fun X => DkAt X d m1 m2 v D ∧ DFr W X d m1 m2 v v) ⟨H0.out.below ((Below.refl _ _).alloc (Nat.le_refl _) _), DFr.of_below ((Below.refl _ _).alloc (Nat.le_refl _) _) _ _ _ _⟩ ?_
  intro w2 hX
  have HX := Lib.hid hX
  clear hX
  refine (S.out _ HX.out.1).mono ?_
  rintro r w3 ⟨rfl, rfl⟩
  go_wp2_with fail
  go_loopw [7, 8, 9, 17, 18, 19, 20, 21, 22, 23, 24, 25, 26, 27, 28, 29, 30, 31, 32, 33, 34, 35, 36, 37, 38, 39, 40, 41, 42, 43, 44, 45, 46, 47] (fun _ _ _ a17 _ _ _ _ _ _ _ _ _ _ _ _ _ _ _ _ _ _ _ _ _ _ _ _ _ _ _ _ _ _ wr => a17 = .int .i64 0 ∧ DkAt wr d m1 m2 v D ∧ DFr W wr d m1 m2 v v) (fun _ _ _ _ _ _ _ _ _ _ _ _ _ _ _ _ _ _ _ _ _ _ _ _ _ _ _ _ _ _ _ _ _ _ _ => 0)
  case atStart => exact ⟨rfl, HX.out⟩
  case round =>
    obtain ⟨rfl, hX⟩ := hrel
    have HX := Lib.hid hX
    clear hX
    go_wp2_with fail
    refine (R.out _ HX.out.1).mono ?_
    rintro r w4 ⟨rfl, hd, hf⟩
    have HX := Lib.hid (And.intro hd (HX.out.2.trans hf))
    clear hd hf
    obtain ⟨z, hz⟩ : ∃ z, z = zero64 := ⟨_, rfl⟩
    rw [← hz]
    have HZL := Lib.hid (show z.length = 64 by rw [hz]; rfl)
    clear hz
    go_wp2_with (refine wpList_new56 (by rfl) _ _ (by rfl) _ _ rfl (by rfl) (by rfl) z (by rfl) HZL.out ?_; intro w5 _ hw5 _; have HX := Lib.hid (show DkAt w5 d m1 m2 v D ∧ DFr W w5 d m1 m2 v v from ⟨HX.out.1.below hw5, HX.out.2.trans (DFr.of_below hw5 _ _ _ _)⟩); clear hw5)
    exact bodyPost_ret (v := .tuple #[.slice none 0 0, .int .i64 0, .int .u32 0, .int .i64 7]) (by simp [results, Try.results77, go_sem]) rfl ⟨rfl, HX.out⟩

set_option maxRecDepth 100000 in
set_option maxHeartbeats 4000000 in
theorem open_down {W : World} {d m1 m2 : Nat} {v : Value} {D : Dk} (h : DkAt W d m1 m2 v D) (hdn : D.down = true) (N : Nat) (hN : D.size = N) (h32 : 32 ≤ N) (hN2 : N ≤ 1024) :
    Calls Try.prog 74 #[.pointer (some ⟨d, 0, none⟩)] W fun r w' => r = .returned (.tuple #[.pointer none, .slice none 0 0, .int .i64 7]) ∧ DkAt w' d m1 m2 v D ∧ DFr W w' d m1 m2 v v := by
  have S := Lib.hid (scan_down h hdn N hN h32 hN2)
  clear h hdn hN h32 hN2
  go_enter Try.func74, Try.ntmps74
  go_wp2_with fail
  refine S.out.mono ?_
  rintro r w1 ⟨rfl, hX⟩
  have HX := Lib.hid hX
  clear hX
  go_wp2_with fail
  exact bodyPost_ret (v := .tuple #[.pointer none, .slice none 0 0, .int .i64 7]) (by simp [results, Try.results74, go_sem]) rfl ⟨rfl, HX.out⟩

/-- How many heads there are among so many pages. -/
def hds (a : Nat) : Nat → Nat
  | 0 => 0
  | m + 1 => hds a m + if (a + m) % 16 = 0 then 1 else 0

theorem hds_le (a : Nat) : ∀ m, hds a m ≤ m
  | 0 => Nat.le_refl _
  | m + 1 => by
    have := hds_le a m
    unfold hds
    split <;> omega

/-- How many pages a record of so many pieces takes: the first m pages bear so many pieces, and the last of them is one. -/
def Needs (a k m : Nat) : Prop := m = k + hds a m ∧ (0 < m → (a + (m - 1)) % 16 ≠ 0)

def NeedR (a k : Nat) (r : Ending) : Prop := ∃ m : Nat, r = .returned (.int .i64 m) ∧ Needs a k m ∧ m ≤ 2000

/-- No two heads stand side by side. -/
theorem hds_half (a : Nat) : ∀ m, hds a (m + 1) ≤ hds a m + 1 ∧ (hds a (m + 1) = hds a m + 1 ↔ (a + m) % 16 = 0) := fun m => by
  have e : hds a (m + 1) = hds a m + if (a + m) % 16 = 0 then 1 else 0 := rfl
  rw [e]
  split
  · exact ⟨Nat.le_refl _, by simp; assumption⟩
  · exact ⟨by omega, by simp; assumption⟩
theorem hds_few (a : Nat) : ∀ m, 2 * hds a m ≤ m + 1 := by
  have h2 : ∀ m, hds a (m + 2) ≤ hds a m + 1 := fun m => by
    have e1 : hds a (m + 1) = hds a m + if (a + m) % 16 = 0 then 1 else 0 := rfl
    have e2 : hds a (m + 2) = hds a (m + 1) + if (a + (m + 1)) % 16 = 0 then 1 else 0 := rfl
    rw [e2, e1]
    split <;> split <;> omega
  have : ∀ m, 2 * hds a m ≤ m + 1 ∧ 2 * hds a (m + 1) ≤ m + 2 := fun m => by
    induction m with
    | zero =>
      refine ⟨by simp [hds], ?_⟩
      have e1 : hds a 1 = hds a 0 + if (a + 0) % 16 = 0 then 1 else 0 := rfl
      rw [e1]
      have : hds a 0 = 0 := rfl
      rw [this]
      split <;> omega
    | succ m ih => exact ⟨ih.2, by have := h2 m; have e : hds a (m + 1 + 1) = hds a (m + 2) := rfl; omega⟩
  exact fun m => (this m).1

def mzF (l a : Value) : Nat := 2 * (intOf l).toNat + (if (intOf a).toNat % 16 = 0 then 1 else 0)
theorem mzF_eq (l a : Nat) : mzF (.int .i64 (l : Int)) (.int .i64 (a : Int)) = 2 * l + if a % 16 = 0 then 1 else 0 := rfl

set_option maxRecDepth 100000 in
set_option maxHeartbeats 2000000 in
theorem need_any (at_ n : Nat) (ha : at_ ≤ 100000) (h1 : 1 ≤ n) (h2 : n ≤ 4096) (W : World) :
    Calls Try.prog 73 #[.int .i64 at_, .int .i64 n] W fun r w' => NeedR at_ (cnt n) r ∧ W = w' := by
  have PG := Lib.hid (fun W => pages_any n (by omega) W)
  have hp : pagesP n = cnt n := by unfold pagesP; rw [if_neg (by omega)]
  rw [hp] at PG
  have hc : 1 ≤ cnt n ∧ cnt n ≤ 84 := by unfold cnt; omega
  have hc1 : ((cnt n : Int) == 0) = false := by simp; omega
  clear hp
  generalize cnt n = K at *
  go_enter Try.func73, Try.ntmps73
  go_wp2_with fail
  refine (PG.out _).mono ?_
  rintro r w1 ⟨rfl, rfl⟩
  go_wp2_with fail
  go_loop [5, 6, 7, 17, 18, 19, 20, 21, 22, 23, 24, 25, 26, 27] (fun a5 a6 a7 _ _ _ _ _ _ _ _ _ _ _ => ∃ l m : Nat, l ≤ 84 ∧ a5 = .int .i64 l ∧ a6 = .int .i64 m ∧ a7 = .int .i64 ((at_ + m : Nat) : Int) ∧ K = l + (m - hds at_ m) ∧ m ≤ 2000 ∧ (0 < m → l = 0 → (at_ + (m - 1)) % 16 ≠ 0)) (fun a5 _ a7 _ _ _ _ _ _ _ _ _ _ _ => mzF a5 a7)
  case atStart => exact ⟨K, 0, hc.2, rfl, rfl, rfl, by simp, by omega, fun h => by omega⟩
  case round =>
    obtain ⟨l, m, hl84, rfl, rfl, rfl, hK, hm, hlast⟩ := hrel
    have hle := hds_le at_ m
    have hfew := hds_few at_ m
    by_cases hl : 0 < l
    · have hlb : decide ((0 : Int) < (l : Int)) = true := by simp; omega
      have hm2 : m + 1 ≤ 2000 := by omega
      have hst : hds at_ (m + 1) = hds at_ m + if (at_ + m) % 16 = 0 then 1 else 0 := rfl
      by_cases h16 : (at_ + m) % 16 = 0
      · rw [if_pos h16] at hst
        have HY := Lib.hid (heads_yes (at_ + m) (by omega) h16)
        have HF := Lib.hid (And.intro hK (And.intro hst h16))
        clear hK hst h16 hlast
        go_wp2_with fail
        refine (HY.out _).mono ?_
        rintro r w2 ⟨rfl, rfl⟩
        go_wp2_with fail
        obtain ⟨hK, hst, h16⟩ := HF.out
        refine ⟨⟨l, m + 1, hl84, rfl, by simp, by rw [show ((at_ : Int) + m + 1) = ((at_ + (m + 1) : Nat) : Int) by omega], by omega, hm2, fun _ h => by omega⟩, ?_⟩
        rw [show ((at_ : Int) + m + 1) = ((at_ + (m + 1) : Nat) : Int) by omega, mzF_eq, mzF_eq, if_neg (by omega), if_pos h16]
        omega
      · rw [if_neg h16] at hst
        have HY := Lib.hid (heads_no (at_ + m) (by omega) h16)
        have HF := Lib.hid (And.intro hK (And.intro hst h16))
        clear hK hst h16 hlast
        go_wp2_with fail
        refine (HY.out _).mono ?_
        rintro r w2 ⟨rfl, rfl⟩
        go_wp2_with fail
        obtain ⟨hK, hst, h16⟩ := HF.out
        refine ⟨⟨l - 1, m + 1, by omega, by rw [show ((l : Int) - 1) = ((l - 1 : Nat) : Int) by omega], by simp, by rw [show ((at_ : Int) + m + 1) = ((at_ + (m + 1) : Nat) : Int) by omega], by omega, hm2, fun _ _ => by rw [show m + 1 - 1 = m by omega]; exact h16⟩, ?_⟩
        rw [show ((at_ : Int) + m + 1) = ((at_ + (m + 1) : Nat) : Int) by omega, show ((l : Int) - 1) = ((l - 1 : Nat) : Int) by omega, mzF_eq, mzF_eq, if_neg h16]
        split <;> omega
    · have hl0 : l = 0 := by omega
      subst hl0
      have HF := Lib.hid (And.intro hK hlast)
      clear hK hlast
      go_wp2_with fail
      go_ret
      obtain ⟨hK, hlast⟩ := HF.out
      exact ⟨⟨m, rfl, ⟨by omega, fun h => hlast h trivial⟩, hm⟩, rfl⟩
end Go.Proofs.Ytmaaljfcnnlnpaa
