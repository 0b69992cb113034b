/-
  The walks of a log's Append and Sync.
-/
import Derived.Test.YtmaaljfcnnlnpaaSegWalk6
namespace Go.Proofs.Ytmaaljfcnnlnpaa
open Go.RowKit

/-- How many pages so many pieces take. -/
def layLen (a : Nat) : Nat → Nat
  | 0 => 0
  | k + 1 => if a % 16 = 0 then 2 + layLen (a + 2) k else 1 + layLen (a + 1) k

theorem hds_front (a : Nat) : ∀ m, hds a (m + 1) = (if a % 16 = 0 then 1 else 0) + hds (a + 1) m
  | 0 => by simp [hds]
  | m + 1 => by
    have ih := hds_front a m
    have e1 : hds a (m + 1 + 1) = hds a (m + 1) + if (a + (m + 1)) % 16 = 0 then 1 else 0 := rfl
    have e2 : hds (a + 1) (m + 1) = hds (a + 1) m + if (a + 1 + m) % 16 = 0 then 1 else 0 := rfl
    rw [e1, e2, ih, show a + 1 + m = a + (m + 1) by omega, Nat.add_assoc]

theorem layLen_pos (a k : Nat) (h : 0 < k) : 0 < layLen a k := by
  cases k with
  | zero => omega
  | succ k => unfold layLen; split <;> omega

theorem layLen_needs : ∀ k a, Needs a k (layLen a k)
  | 0, a => ⟨rfl, fun h => by cases h⟩
  | k + 1, a => by
    unfold layLen
    split
    · rename_i h16
      obtain ⟨i1, i2⟩ := layLen_needs k (a + 2)
      have e1 := hds_front a (1 + layLen (a + 2) k)
      have e2 := hds_front (a + 1) (layLen (a + 2) k)
      rw [if_pos h16] at e1
      rw [if_neg (by omega)] at e2
      refine ⟨?_, fun _ => ?_⟩
      · rw [show 2 + layLen (a + 2) k = 1 + layLen (a + 2) k + 1 by omega, e1, show 1 + layLen (a + 2) k = layLen (a + 2) k + 1 by omega, e2]
        show _ = k + 1 + (1 + (0 + hds (a + 2) (layLen (a + 2) k)))
        omega
      · by_cases h0 : 0 < layLen (a + 2) k
        · have := i2 h0
          rwa [show a + (2 + layLen (a + 2) k - 1) = a + 2 + (layLen (a + 2) k - 1) by omega]
        · omega
    · rename_i h16
      obtain ⟨i1, i2⟩ := layLen_needs k (a + 1)
      have e1 := hds_front a (layLen (a + 1) k)
      rw [if_neg h16] at e1
      refine ⟨?_, fun _ => ?_⟩
      · rw [show 1 + layLen (a + 1) k = layLen (a + 1) k + 1 by omega, e1]
        omega
      · by_cases h0 : 0 < layLen (a + 1) k
        · have := i2 h0
          rwa [show a + (1 + layLen (a + 1) k - 1) = a + 1 + (layLen (a + 1) k - 1) by omega]
        · have : layLen (a + 1) k = 0 := by omega
          rw [this]
          exact h16

theorem needs_le (a k m m' : Nat) (h : Needs a k m) (h' : Needs a k m') (hlt : m < m') : False := by
  -- between them all pages would be heads
  have key : ∀ j, m + j ≤ m' → hds a (m + j) ≤ hds a m + j := fun j => by
    induction j with
    | zero => intro _; exact Nat.le_refl _
    | succ j ih =>
      intro hj
      have := (hds_half a (m + j)).1
      have := ih (by omega)
      show hds a (m + j + 1) ≤ _
      omega
  obtain ⟨j, rfl⟩ : ∃ j, m' = m + j + 1 := ⟨m' - m - 1, by omega⟩
  have h1 := key j (by omega)
  have h2 := (hds_half a (m + j)).2
  have h3 := (hds_half a (m + j)).1
  have h4 := h'.2 (by omega)
  rw [show m + j + 1 - 1 = m + j by omega] at h4
  have e1 := h.1
  have e2 := h'.1
  have : hds a (m + j + 1) = hds a (m + j) + 1 := by omega
  exact h4 (h2.1 this)

theorem needs_eq (a k m m' : Nat) (h : Needs a k m) (h' : Needs a k m') : m = m' := by
  rcases Nat.lt_trichotomy m m' with h1 | h1 | h1
  · exact (needs_le a k m m' h h' h1).elim
  · exact h1
  · exact (needs_le a k m' m h' h h1).elim

theorem need_eq (at_ n : Nat) (ha : at_ ≤ 100000) (h1 : 1 ≤ n) (h2 : n ≤ 4096) (W : World) :
    Calls Try.prog 73 #[.int .i64 at_, .int .i64 n] W fun r w' => r = .returned (.int .i64 (layLen at_ (cnt n) : Nat)) ∧ W = w' := by
  refine (need_any at_ n ha h1 h2 W).mono ?_
  rintro r w' ⟨⟨m, rfl, hm, _⟩, rfl⟩
  rw [needs_eq _ _ _ _ hm (layLen_needs (cnt n) at_)]
  exact ⟨rfl, rfl⟩

theorem puts_snoc (L : Lg) (p : Pg) : ∀ ps, L.puts (ps ++ [p]) = if (L.puts ps).2 = 0 then (L.puts ps).1.put p else L.puts ps := by
  intro ps
  induction ps generalizing L with
  | nil =>
    show (if (L.put p).2 = 0 then ((L.put p).1, 0) else L.put p) = L.put p
    split
    · rename_i h
      exact Prod.ext rfl h.symm
    · rfl
  | cons q ps ih =>
    show (if (L.put q).2 = 0 then (L.put q).1.puts (ps ++ [p]) else L.put q) = if (if (L.put q).2 = 0 then (L.put q).1.puts ps else L.put q).2 = 0 then (if (L.put q).2 = 0 then (L.put q).1.puts ps else L.put q).1.put p else (if (L.put q).2 = 0 then (L.put q).1.puts ps else L.put q)
    by_cases h : (L.put q).2 = 0
    · rw [if_pos h, if_pos h]
      exact ih _
    · rw [if_neg h, if_neg h, if_neg h]

theorem puts_app (L : Lg) (b : List Pg) : ∀ a, L.puts (a ++ b) = if (L.puts a).2 = 0 then (L.puts a).1.puts b else L.puts a := by
  intro a
  induction a generalizing L with
  | nil => rfl
  | cons q a ih =>
    show (if (L.put q).2 = 0 then (L.put q).1.puts (a ++ b) else L.put q) = if (if (L.put q).2 = 0 then (L.put q).1.puts a else L.put q).2 = 0 then (if (L.put q).2 = 0 then (L.put q).1.puts a else L.put q).1.puts b else (if (L.put q).2 = 0 then (L.put q).1.puts a else L.put q)
    by_cases h : (L.put q).2 = 0
    · rw [if_pos h, if_pos h]
      exact ih _
    · rw [if_neg h, if_neg h, if_neg h]

/-- A log behind a write, more exactly. -/
theorem wr_facts {L : Lg} (h : L.ok) (hlt : (L.nx : Int) < L.D.size) (hlen : L.D.loose.length < 90000) (p : Pg) :
    (L.wr p).1.ok ∧ (L.wr p).1.D.loose.length ≤ L.D.loose.length + 1 ∧ (L.wr p).1.D.size = L.D.size ∧ ((L.wr p).2 = 0 → (L.wr p).1.nx = L.nx + 1) := by
  refine ⟨h.wr hlt hlen p, ?_⟩
  unfold Lg.wr
  split
  · exact ⟨Nat.le_succ _, rfl, fun h => by cases h⟩
  · refine ⟨?_, rfl, fun _ => rfl⟩
    show (L.D.loose ++ [_]).length ≤ _
    simp

theorem put_facts {L : Lg} (h : L.ok) (hlt : (L.nx : Int) + 1 < L.D.size ∨ (L.nx : Int) < L.D.size ∧ L.nx % 16 ≠ 0) (hlen : L.D.loose.length < 80000) (p : Pg) :
    (L.put p).1.ok ∧ (L.put p).1.D.loose.length ≤ L.D.loose.length + 2 ∧ (L.put p).1.D.size = L.D.size ∧ ((L.put p).2 = 0 → (L.put p).1.nx = L.nx + if L.nx % 16 = 0 then 2 else 1) := by
  unfold Lg.put
  split
  · rename_i h16
    obtain ⟨a1, a2, a3, a4⟩ := wr_facts h (by omega) (by omega) ⟨0, 0, 1, false, false, headB L.nx⟩
    split
    · rename_i he
      have hn := a4 he
      obtain ⟨b1, b2, b3, b4⟩ := wr_facts a1 (by rw [hn, a3]; omega) (by omega) p
      exact ⟨b1, by omega, b3.trans a3, fun h => by rw [b4 h, hn]⟩
    · rename_i he
      exact ⟨a1, by omega, a3, fun h => absurd h he⟩
  · rename_i h16
    obtain ⟨a1, a2, a3, a4⟩ := wr_facts h (by omega) (by omega) p
    exact ⟨a1, by omega, a3, a4⟩

theorem layLen_add (j k : Nat) : ∀ a, layLen a (j + k) = layLen a j + layLen (a + layLen a j) k := by
  induction j with
  | zero => intro a; simp [layLen]
  | succ j ih =>
    intro a
    have s : ∀ n, layLen a (n + 1) = if a % 16 = 0 then 2 + layLen (a + 2) n else 1 + layLen (a + 1) n := fun n => rfl
    rw [show j + 1 + k = j + k + 1 by omega, s, s]
    split
    · rw [ih (a + 2), show a + (2 + layLen (a + 2) j) = a + 2 + layLen (a + 2) j by omega]
      omega
    · rw [ih (a + 1), show a + (1 + layLen (a + 1) j) = a + 1 + layLen (a + 1) j by omega]
      omega
theorem layLen_le : ∀ k a, layLen a k ≤ 2 * k
  | 0, _ => Nat.le_refl _
  | k + 1, a => by
    have i1 := layLen_le k (a + 2)
    have i2 := layLen_le k (a + 1)
    unfold layLen
    split <;> omega

theorem puts_ok (P : Nat) : ∀ (ps : List Pg) (L : Lg), L.ok → (P : Int) ≤ L.D.size → L.nx + layLen L.nx ps.length ≤ P → L.D.loose.length + 2 * ps.length ≤ 79000 →
    (L.puts ps).1.ok ∧ (L.puts ps).1.D.loose.length ≤ L.D.loose.length + 2 * ps.length ∧ (L.puts ps).1.D.size = L.D.size ∧ ((L.puts ps).2 = 0 → (L.puts ps).1.nx = L.nx + layLen L.nx ps.length)
  | [], L, h, _, _, _ => ⟨h, by show L.D.loose.length ≤ _; omega, rfl, fun _ => rfl⟩
  | p :: ps, L, h, hP, hroom, hlen => by
    have hr : L.nx + (if L.nx % 16 = 0 then 2 + layLen (L.nx + 2) ps.length else 1 + layLen (L.nx + 1) ps.length) ≤ P := hroom
    have hll : layLen L.nx (p :: ps).length = if L.nx % 16 = 0 then 2 + layLen (L.nx + 2) ps.length else 1 + layLen (L.nx + 1) ps.length := rfl
    have hlen' : L.D.loose.length + 2 * (ps.length + 1) ≤ 79000 := hlen
    have hput : (L.nx : Int) + 1 < L.D.size ∨ (L.nx : Int) < L.D.size ∧ L.nx % 16 ≠ 0 := by
      split at hr
      · left; omega
      · right; exact ⟨by omega, by assumption⟩
    obtain ⟨a1, a2, a3, a4⟩ := put_facts h hput (by omega) p
    show (if (L.put p).2 = 0 then (L.put p).1.puts ps else L.put p).1.ok ∧ (if (L.put p).2 = 0 then (L.put p).1.puts ps else L.put p).1.D.loose.length ≤ L.D.loose.length + 2 * (ps.length + 1) ∧ (if (L.put p).2 = 0 then (L.put p).1.puts ps else L.put p).1.D.size = L.D.size ∧ ((if (L.put p).2 = 0 then (L.put p).1.puts ps else L.put p).2 = 0 → (if (L.put p).2 = 0 then (L.put p).1.puts ps else L.put p).1.nx = L.nx + layLen L.nx (p :: ps).length)
    by_cases he : (L.put p).2 = 0
    · rw [if_pos he]
      have hn := a4 he
      obtain ⟨b1, b2, b3, b4⟩ := puts_ok P ps (L.put p).1 a1 (by rw [a3]; exact hP) (by
        rw [hn]
        split at hr
        · rename_i h16; rw [if_pos h16]; omega
        · rename_i h16; rw [if_neg h16]; omega) (by omega)
      refine ⟨b1, by omega, b3.trans a3, fun h => ?_⟩
      rw [b4 h, hn, hll]
      split
      · omega
      · omega
    · rw [if_neg he]
      exact ⟨a1, by omega, a3, fun h => absurd h he⟩

/-- What Append does. -/
def Lg.app (L : Lg) (P : Nat) (rec : List UInt8) : Lg × Nat × Nat :=
  if rec.length < 1 ∨ 4096 < rec.length then (L, 0, 10)
  else if L.fz = true then (L, 0, 8)
  else if P < L.nx + layLen L.nx (cnt rec.length) then (L, 0, 5)
  else if (L.puts (pieces 0 rec)).2 = 0 then ((L.puts (pieces 0 rec)).1, (if L.nx % 16 = 0 then L.nx + 1 else L.nx), 0) else ((L.puts (pieces 0 rec)).1, 0, (L.puts (pieces 0 rec)).2)

theorem lpages_any {w W : World} {g d m1 m2 : Nat} {L : Lg} {l : List Nat} {F : Nat → Option Obj} (h : LS w W g d m1 m2 L l F) (N : Nat) (hN : L.D.size = N) (hN2 : N ≤ 100000) :
    Calls Try.prog 97 #[.pointer (some ⟨d, 0, none⟩)] W fun r w' => r = .returned (.int .i64 (N / 16 * 16 : Nat)) ∧ W = w' := h.ds.dk.elim fun _ hv => segpages_any hv.1 N hN hN2

theorem DS.addNew {w W W' : World} {d m1 m2 : Nat} {D : Dk} {l : List Nat} (h : DS w W d m1 m2 D l) (hb : Below W.heap.size W W') (k : Nat) (h1 : W.heap.size ≤ k) (h2 : k < W'.heap.size) : DS w W' d m1 m2 D (k :: l) := by
  obtain ⟨k1, _⟩ := h.step hb
  obtain ⟨v, h3, h4⟩ := h.dk
  have h5 := h3.lt
  have ho1 := h3.o1
  have ho2 := h3.o2
  refine ⟨k1.below, h.ge, ⟨v, h3.below hb, fun x hx => ?_⟩, fun x hx => ?_⟩
  · rcases List.mem_cons.1 hx with rfl | hx
    · exact ⟨h2, by omega, by omega, by omega, fun e => by
        have := (ownsRow_ge h3.row e).2
        omega⟩
    · exact ⟨Nat.lt_of_lt_of_le (h4 x hx).1 hb.size, (h4 x hx).2⟩
  · rcases List.mem_cons.1 hx with rfl | hx
    · exact Nat.le_trans h.below.size h1
    · exact h.lge x hx

/-- A new block stands, too. -/
theorem LS.addNew {w W W' : World} {g d m1 m2 : Nat} {L : Lg} {l : List Nat} {F : Nat → Option Obj} (h : LS w W g d m1 m2 L l F) (hb : Below W.heap.size W W') (k : Nat) (h1 : W.heap.size ≤ k) (h2 : k < W'.heap.size) :
    LS w W' g d m1 m2 L (k :: l) (fun x => if x = k then W'.heap[k]? else F x) := by
  have h0 := h.step hb
  have hg := h.lg.lt
  refine ⟨(h.ds.addNew hb k h1 h2).less (fun x hx => ?_), h0.lg, fun x hx => ?_, fun hx => ?_⟩
  · rcases List.mem_cons.1 hx with rfl | hx
    · exact .tail _ (.head _)
    · rcases List.mem_cons.1 hx with rfl | hx
      · exact .head _
      · exact .tail _ (.tail _ hx)
  · rcases List.mem_cons.1 hx with rfl | hx
    · rw [if_pos rfl]
    · have := h.lt hx
      rw [if_neg (by omega)]
      exact h0.st x hx
  · rcases List.mem_cons.1 hx with rfl | hx
    · omega
    · exact h.ng hx
/-- And is forgotten. -/
theorem LS.drop {w W : World} {g d m1 m2 : Nat} {L : Lg} {l : List Nat} {F : Nat → Option Obj} {k : Nat} {o : Option Obj} (h : LS w W g d m1 m2 L (k :: l) (fun x => if x = k then o else F x)) (hk : k ∉ l) : LS w W g d m1 m2 L l F :=
  ⟨h.ds.less (fun x hx => by
    rcases List.mem_cons.1 hx with rfl | hx
    · exact .head _
    · exact .tail _ (.tail _ hx)), h.lg, fun x hx => by
    have := h.st x (.tail _ hx)
    have hne : x ≠ k := fun e => hk (e ▸ hx)
    rwa [if_neg hne] at this, fun hx => h.ng (.tail _ hx)⟩

theorem upto_facts {L : Lg} (h : L.ok) (P : Nat) (hP : (P : Int) ≤ L.D.size) (ps : List Pg) (hroom : L.nx + layLen L.nx ps.length ≤ P) (hlen : L.D.loose.length + 2 * ps.length ≤ 79000) (q : Nat) (hq : q < ps.length) (h0 : (L.puts (ps.take q)).2 = 0) :
    (L.puts (ps.take q)).1.ok ∧ (L.puts (ps.take q)).1.D.loose.length < 80000 ∧ (L.puts (ps.take q)).1.D.size = L.D.size ∧ (((L.puts (ps.take q)).1.nx : Int) + 1 < (L.puts (ps.take q)).1.D.size ∨ ((L.puts (ps.take q)).1.nx : Int) < (L.puts (ps.take q)).1.D.size ∧ (L.puts (ps.take q)).1.nx % 16 ≠ 0) := by
  have hl : (ps.take q).length = q := by simp; omega
  have ha := layLen_add q (ps.length - q) L.nx
  rw [show q + (ps.length - q) = ps.length by omega] at ha
  obtain ⟨a1, a2, a3, a4⟩ := puts_ok P (ps.take q) L h hP (by rw [hl]; omega) (by rw [hl]; omega)
  rw [hl] at a2 a4
  have hn := a4 h0
  have hr : (L.puts (ps.take q)).1.nx + layLen (L.puts (ps.take q)).1.nx (ps.length - q) ≤ P := by rw [hn]; omega
  obtain ⟨k, hk⟩ : ∃ k, ps.length - q = k + 1 := ⟨ps.length - q - 1, by omega⟩
  rw [hk] at hr
  unfold layLen at hr
  refine ⟨a1, by omega, a3, ?_⟩
  rw [a3]
  split at hr
  · left; omega
  · right; exact ⟨by omega, by assumption⟩

set_option maxRecDepth 100000 in
set_option maxHeartbeats 4000000 in
theorem append_any {w W : World} {g d m1 m2 : Nat} {L : Lg} {l : List Nat} {F : Nat → Option Obj} (h : LS w W g d m1 m2 L l F) (hk : L.ok) (N : Nat) (hN : L.D.size = N) (P : Nat) (hP : N / 16 * 16 = P) (hnx : L.nx ≤ P) (hlen : L.D.loose.length ≤ 70000) (s : ByteArray) (hs : s.size < 1000000) :
    Calls Try.prog 75 #[.pointer (some ⟨g, 0, none⟩), .string s] W
      fun r w' => r = .returned (.tuple #[.int .i64 ((L.app P s.data.toList).2.1 : Nat), .int .i64 ((L.app P s.data.toList).2.2 : Nat)]) ∧ LS w w' g d m1 m2 (L.app P s.data.toList).1 l F := by
  have hsl : s.data.toList.length = s.size := by simp
  have hN2 : N ≤ 100000 := by have := hk.size; omega
  have H := Lib.hid h
  by_cases hbad : s.size < 1 ∨ 4096 < s.size
  · have e := Lib.hid (show L.app P s.data.toList = (L, 0, 10) by unfold Lg.app; rw [if_pos (by rw [hsl]; exact hbad)])
    have C := Lib.hid (cut_no 0 s (by omega) hbad W)
    clear h hbad
    go_enter Try.func75, Try.ntmps75
    go_wp2_with fail
    refine C.out.mono ?_
    rintro r w1 ⟨rfl, hb⟩
    have HL := Lib.hid (H.out.step hb)
    clear hb
    go_wp2_with fail
    rw [e.out]
    exact bodyPost_ret (v := .tuple #[.int .i64 0, .int .i64 10]) (by simp [results, Try.results75, go_sem]) rfl ⟨rfl, HL.out⟩
  · have C := Lib.hid (cut_yes 0 s (by omega) (by omega) W)
    have hc84 : cnt s.size ≤ 84 := by unfold cnt; omega
    have hs1 : 1 ≤ s.size := by omega
    have hs2 : s.size ≤ 4096 := by omega
    have happ : L.app P s.data.toList = if L.fz = true then (L, 0, 8) else if P < L.nx + layLen L.nx (cnt s.size) then (L, 0, 5)
        else if (L.puts (pieces 0 s.data.toList)).2 = 0 then ((L.puts (pieces 0 s.data.toList)).1, (if L.nx % 16 = 0 then L.nx + 1 else L.nx), 0) else ((L.puts (pieces 0 s.data.toList)).1, 0, (L.puts (pieces 0 s.data.toList)).2) := by
      unfold Lg.app
      rw [if_neg (by rw [hsl]; exact hbad), hsl]
    clear h hbad
    go_enter Try.func75, Try.ntmps75
    go_wp2_with fail
    refine C.out.mono ?_
    rintro r w1 ⟨v, rfl, hrow, hb⟩
    have HRW := Lib.hid hrow
    have HL := Lib.hid (H.out.step hb)
    have HB := Lib.hid hb
    clear hrow hb C
    rcases Bool.eq_false_or_eq_true L.fz with hfz | hfz
    · have e := Lib.hid (happ.trans (if_pos hfz))
      have c3 := HL.out.lg.c3
      rw [hfz] at c3
      clear happ hfz
      go_wp2_with fail
      rw [e.out]
      exact bodyPost_ret (v := .tuple #[.int .i64 0, .int .i64 8]) (by simp [results, Try.results75, go_sem]) rfl ⟨rfl, HL.out⟩
    · have e1 := happ.trans (if_neg (by rw [hfz]; decide))
      clear happ
      have c3 := HL.out.lg.c3
      rw [hfz] at c3
      have HFZ := Lib.hid hfz
      clear hfz
      have c0 := HL.out.lg.c0
      have c2 := HL.out.lg.c2
      have ND := Lib.hid (fun W => need_eq L.nx s.size (by omega) hs1 hs2 W)
      have PG := Lib.hid (lpages_any HL.out N hN hN2)
      rw [hP] at PG
      have hlle := layLen_le (cnt s.size) L.nx
      have hPN : P ≤ 100000 := by omega
      have hroom0 := puts_ok P (pieces 0 s.data.toList) L hk (by rw [hN]; omega)
      rw [pieces_length, hsl] at hroom0
      have HROOM := Lib.hid hroom0
      clear hroom0
      generalize hll : layLen L.nx (cnt s.size) = ll at *
      have hll2 : ll ≤ 200 := by omega
      clear hlle
      have HLL := Lib.hid hll
      clear hll
      go_upto_region 6 with fail
      have HL := Lib.hid (HL.out.step (Below.refl _ _).drew)
      have y0 : ∀ y : WS (fun X => X = w1.drew), y.w.cell? ⟨g, 0, none⟩ = some (.pointer (some ⟨d, 0, none⟩)) := fun y => by rw [y.ok]; exact HL.out.lg.c0
      have y2 : ∀ y : WS (fun X => X = w1.drew), y.w.cell? ⟨g, 2, none⟩ = some (.int .i64 (L.nx : Int)) := fun y => by rw [y.ok]; exact HL.out.lg.c2
      have PG' : ∀ y : WS (fun X => X = w1.drew), Calls Try.prog 97 #[.pointer (some ⟨d, 0, none⟩)] y.w fun r w' => r = .returned (.int .i64 (P : Nat)) ∧ y.w = w' := fun y => by
        have := lpages_any HL.out N hN hN2
        rw [hP] at this
        rw [y.ok]; exact this
      have PG' := Lib.hid PG'
      haveI : Nonempty (WS (fun X => X = w1.drew)) := ⟨⟨w1.drew, rfl⟩⟩
      refine wp_region_ws (fun X => X = w1.drew) (by kernel_rfl) (by kernel_rfl) rfl ?_
      repeat (go_big_quiet_step (first | (go_at_call 73; exact ws_same (ND.out _)) | (go_at_call 97; exact ws_same (PG'.out _))))
      refine wpQuiet_nil ?_
      rintro w12 ⟨⟨w11, hw11⟩, hw12⟩
      have hww : w12 = w1.drew := hw12.trans hw11
      clear hw12 hw11
      subst hww
      clear y0 y2 PG PG' ND this
      by_cases hfit : P < L.nx + ll
      · have e := Lib.hid (e1.trans (if_pos hfit))
        have hfb : decide ((P : Int) - L.nx < ll) = true := by simp; omega
        clear e1
        go_wp2_with fail
        rw [e.out]
        exact bodyPost_ret (v := .tuple #[.int .i64 0, .int .i64 5]) (by simp [results, Try.results75, go_sem]) rfl ⟨rfl, HL.out⟩
      · have e2 := Lib.hid (e1.trans (if_neg hfit))
        have hfb : decide ((P : Int) - L.nx < ll) = false := by simp; omega
        have hroom : L.nx + layLen L.nx (cnt s.size) ≤ P := by rw [HLL.out]; omega
        have UF := Lib.hid (upto_facts hk P (by rw [hN]; omega) (pieces 0 s.data.toList) (by rw [pieces_length, hsl]; exact hroom) (by rw [pieces_length, hsl]; omega))
        have hpl := Lib.hid (show (pieces 0 s.data.toList).length = cnt s.size by rw [pieces_length, hsl])
        have hpr := Lib.hid (fun q (hq : q < cnt s.size) => piece_right 0 s.data.toList q (by rw [hsl]; exact hq))
        have hpg := Lib.hid (fun q (hq : q < (pieces 0 s.data.toList).length) => pieces_get 0 s.data.toList q hq)
        have hroomN : L.nx + ll ≤ P := by omega
        clear e1 hfit hroom
        obtain ⟨g2, cap, rfl, hg2, hg2'⟩ := HRW.out.form (cnt_pos _ hs1)
        have HL2 := Lib.hid (H.out.addNew HB.out.drew g2 hg2 hg2')
        have hgl : g2 ∉ l := fun hm => by have := H.out.lt hm; omega
        have HGL := Lib.hid hgl
        have HPA := Lib.hid (fun X q (hX : X.heap[g2]? = w1.drew.heap[g2]?) (hq : q < (pieces 0 s.data.toList).length) => own_pg (ownsRow_of_block HRW.out (W' := X) (fun x hx => by cases hx; exact hX)) q hq)
        generalize hps : pieces 0 s.data.toList = ps at *
        have HPS := Lib.hid hps
        clear hps hgl hg2 hg2' HROOM
        generalize cnt s.size = K at *
        have c2 := HL.out.lg.c2
        have hnx2 : L.nx ≤ 100000 := by omega
        clear c0 c3
        by_cases h16 : L.nx % 16 = 0
        · have HY := Lib.hid (heads_yes L.nx (by omega) h16)
          have H16 := Lib.hid h16
          clear h16
          go_wp2_with fail
          refine (HY.out _).mono ?_
          rintro r w3 ⟨rfl, rfl⟩
          go_wp2_with fail
          go_loopw [10, 11, 59, 60, 61, 62, 63, 64, 65, 66, 67, 68, 69] (fun _ _ a59 _ _ _ _ _ _ _ _ _ _ wr => ∃ q : Nat, q ≤ K ∧ a59 = .int .i64 q ∧ (L.puts (ps.take q)).2 = 0 ∧ LS w wr g d m1 m2 (L.puts (ps.take q)).1 (g2::l) (fun x => if x = g2 then w1.drew.heap[g2]? else F x)) (fun _ _ a59 _ _ _ _ _ _ _ _ _ _ _ => K - (intOf a59).toNat)
          case atStart => exact ⟨0, by omega, rfl, rfl, HL2.out⟩
          case round =>
            obtain ⟨q, hq, rfl, hz, hL⟩ := hrel
            have HZ := Lib.hid hz
            have HL := Lib.hid hL
            clear hz hL HL2
            by_cases hlt : q < K
            · have hql : q < ps.length := by rw [hpl.out]; exact hlt
              obtain ⟨u1, u2, u3, u4⟩ := UF.out q hql HZ.out
              have hst : wr.heap[g2]? = w1.drew.heap[g2]? := by
                have := HL.out.st g2 (.head _)
                rwa [if_pos rfl] at this
              have HP := Lib.hid (HPA.out wr q hst hql)
              have HPR := Lib.hid (hpr.out q hlt)
              rw [← hpg.out q hql] at HPR
              have PT := Lib.hid (fun X p (hX : LS w X g d m1 m2 (L.puts (ps.take q)).1 (g2 :: l) (fun x => if x = g2 then w1.drew.heap[g2]? else F x)) (hp : p.right = true) => put_any hX u1 u4 u2 p hp)
              have hsn := Lib.hid (puts_snoc L ps[q] (ps.take q))
              have htk := Lib.hid (List.take_succ_eq_append_getElem hql)
              generalize ps[q] = p at *
              have LB := Lib.hid (PX.boxed wr p 44 0)
              clear hst u1 u2 u3 u4
              go_upto_region 14 with (refine wpList_load44g _ (by rfl) (by rfl) g2 (q * 6) (by rfl) p HP.out ?_)
              refine wp_gate (fun X => LS w X g d m1 m2 (L.puts (ps.take q)).1 (g2::l) (fun x => if x = g2 then w1.drew.heap[g2]? else F x) ∧ PgAt X wr.heap.size 0 p) ⟨HL.out.step LB.out.below, LB.out.pg⟩ ?_
              intro w4 hX
              have HX := Lib.hid hX
              generalize wr.heap.size = bx at *
              clear hX HL HP LB
              go_wp2_with (refine wpList_load44g _ (by rfl) (by rfl) bx 0 (by rfl) p HX.out.2 ?_)
              refine (PT.out _ p HX.out.1 HPR.out).mono ?_
              rintro r w5 ⟨rfl, hL⟩
              have HL := Lib.hid hL
              clear hL PT HX
              rw [if_pos HZ.out, ← htk.out] at hsn
              by_cases he : ((L.puts (ps.take q)).1.put p).2 = 0
              · rw [he]
                have HE := Lib.hid he
                clear he
                go_wp2_with fail
                exact ⟨⟨q + 1, by omega, by simp, by rw [hsn.out]; exact HE.out, by rw [hsn.out]; exact HL.out⟩, by simp only [intOf]; omega⟩
              · have hbad : L.puts ps = (L.puts (ps.take q)).1.put p := by
                  have := puts_app L (ps.drop (q + 1)) (ps.take (q + 1))
                  rw [List.take_append_drop, hsn.out, if_neg he] at this
                  exact this
                have HBAD := Lib.hid hbad
                have hne : (((((L.puts (ps.take q)).1.put p).2 : Nat) : Int) != 0) = true := by rw [bne_iff_ne]; omega
                have e3 := Lib.hid (e2.out.trans (if_neg (by rw [HBAD.out]; exact he)))
                clear he hbad
                rw [HBAD.out] at e3
                generalize (L.puts (ps.take q)).1.put p = R at *
                go_wp2_with fail
                rw [e3.out]
                exact bodyPost_ret (v := .tuple #[.int .i64 0, .int .i64 (R.2 : Nat)]) (by simp [results, Try.results75, go_sem]) rfl ⟨rfl, HL.out.drop HGL.out⟩
            · have hqK : q = K := by omega
              subst hqK
              have hall : ps.take q = ps := List.take_of_length_le (by rw [hpl.out]; exact Nat.le_refl _)
              rw [hall] at HZ HL
              have e3 := Lib.hid (e2.out.trans (if_pos HZ.out))
              have H16' := Lib.hid (show (if L.nx % 16 = 0 then L.nx + 1 else L.nx) = L.nx + 1 from if_pos H16.out)
              clear hall
              go_wp2_with fail
              rw [e3.out, H16'.out]
              exact bodyPost_ret (v := .tuple #[.int .i64 ((L.nx : Int) + 1), .int .i64 0]) (by simp [results, Try.results75, go_sem]) rfl ⟨rfl, HL.out.drop HGL.out⟩
        · have HY := Lib.hid (heads_no L.nx (by omega) h16)
          have H16 := Lib.hid h16
          clear h16
          go_wp2_with fail
          refine (HY.out _).mono ?_
          rintro r w3 ⟨rfl, rfl⟩
          go_wp2_with fail
          go_loopw [10, 11, 59, 60, 61, 62, 63, 64, 65, 66, 67, 68, 69] (fun _ _ a59 _ _ _ _ _ _ _ _ _ _ wr => ∃ q : Nat, q ≤ K ∧ a59 = .int .i64 q ∧ (L.puts (ps.take q)).2 = 0 ∧ LS w wr g d m1 m2 (L.puts (ps.take q)).1 (g2::l) (fun x => if x = g2 then w1.drew.heap[g2]? else F x)) (fun _ _ a59 _ _ _ _ _ _ _ _ _ _ _ => K - (intOf a59).toNat)
          case atStart => exact ⟨0, by omega, rfl, rfl, HL2.out⟩
          case round =>
            obtain ⟨q, hq, rfl, hz, hL⟩ := hrel
            have HZ := Lib.hid hz
            have HL := Lib.hid hL
            clear hz hL HL2
            by_cases hlt : q < K
            · have hql : q < ps.length := by rw [hpl.out]; exact hlt
              obtain ⟨u1, u2, u3, u4⟩ := UF.out q hql HZ.out
              have hst : wr.heap[g2]? = w1.drew.heap[g2]? := by
                have := HL.out.st g2 (.head _)
                rwa [if_pos rfl] at this
              have HP := Lib.hid (HPA.out wr q hst hql)
              have HPR := Lib.hid (hpr.out q hlt)
              rw [← hpg.out q hql] at HPR
              have PT := Lib.hid (fun X p (hX : LS w X g d m1 m2 (L.puts (ps.take q)).1 (g2 :: l) (fun x => if x = g2 then w1.drew.heap[g2]? else F x)) (hp : p.right = true) => put_any hX u1 u4 u2 p hp)
              have hsn := Lib.hid (puts_snoc L ps[q] (ps.take q))
              have htk := Lib.hid (List.take_succ_eq_append_getElem hql)
              generalize ps[q] = p at *
              have LB := Lib.hid (PX.boxed wr p 44 0)
              clear hst u1 u2 u3 u4
              go_upto_region 14 with (refine wpList_load44g _ (by rfl) (by rfl) g2 (q * 6) (by rfl) p HP.out ?_)
              refine wp_gate (fun X => LS w X g d m1 m2 (L.puts (ps.take q)).1 (g2::l) (fun x => if x = g2 then w1.drew.heap[g2]? else F x) ∧ PgAt X wr.heap.size 0 p) ⟨HL.out.step LB.out.below, LB.out.pg⟩ ?_
              intro w4 hX
              have HX := Lib.hid hX
              generalize wr.heap.size = bx at *
              clear hX HL HP LB
              go_wp2_with (refine wpList_load44g _ (by rfl) (by rfl) bx 0 (by rfl) p HX.out.2 ?_)
              refine (PT.out _ p HX.out.1 HPR.out).mono ?_
              rintro r w5 ⟨rfl, hL⟩
              have HL := Lib.hid hL
              clear hL PT HX
              rw [if_pos HZ.out, ← htk.out] at hsn
              by_cases he : ((L.puts (ps.take q)).1.put p).2 = 0
              · rw [he]
                have HE := Lib.hid he
                clear he
                go_wp2_with fail
                exact ⟨⟨q + 1, by omega, by simp, by rw [hsn.out]; exact HE.out, by rw [hsn.out]; exact HL.out⟩, by simp only [intOf]; omega⟩
              · have hbad : L.puts ps = (L.puts (ps.take q)).1.put p := by
                  have := puts_app L (ps.drop (q + 1)) (ps.take (q + 1))
                  rw [List.take_append_drop, hsn.out, if_neg he] at this
                  exact this
                have HBAD := Lib.hid hbad
                have hne : (((((L.puts (ps.take q)).1.put p).2 : Nat) : Int) != 0) = true := by rw [bne_iff_ne]; omega
                have e3 := Lib.hid (e2.out.trans (if_neg (by rw [HBAD.out]; exact he)))
                clear he hbad
                rw [HBAD.out] at e3
                generalize (L.puts (ps.take q)).1.put p = R at *
                go_wp2_with fail
                rw [e3.out]
                exact bodyPost_ret (v := .tuple #[.int .i64 0, .int .i64 (R.2 : Nat)]) (by simp [results, Try.results75, go_sem]) rfl ⟨rfl, HL.out.drop HGL.out⟩
            · have hqK : q = K := by omega
              subst hqK
              have hall : ps.take q = ps := List.take_of_length_le (by rw [hpl.out]; exact Nat.le_refl _)
              rw [hall] at HZ HL
              have e3 := Lib.hid (e2.out.trans (if_pos HZ.out))
              have H16' := Lib.hid (show (if L.nx % 16 = 0 then L.nx + 1 else L.nx) = L.nx from if_neg H16.out)
              clear hall
              go_wp2_with fail
              rw [e3.out, H16'.out]
              exact bodyPost_ret (v := .tuple #[.int .i64 (L.nx : Int), .int .i64 0]) (by simp [results, Try.results75, go_sem]) rfl ⟨rfl, HL.out.drop HGL.out⟩

/-- What Sync does. -/
def Lg.sync (L : Lg) : Lg × Nat :=
  if L.fz = true then (L, 8) else if L.D.fuse = 0 then ({ L with fz := true }, 6) else ({ L with D := L.D.burnt.settled fun _ => true }, 0)

set_option maxRecDepth 100000 in
set_option maxHeartbeats 4000000 in
theorem lsync_any {w W : World} {g d m1 m2 : Nat} {L : Lg} {l : List Nat} {F : Nat → Option Obj} (h : LS w W g d m1 m2 L l F) (hk : L.ok) (h1 : 1 ≤ L.D.size) :
    Calls Try.prog 80 #[.pointer (some ⟨g, 0, none⟩)] W fun r w' => r = .returned (.int .i64 (L.sync.2 : Nat)) ∧ LS w w' g d m1 m2 L.sync.1 l F := by
  have H := Lib.hid h
  have c0 := h.lg.c0
  have c3 := h.lg.c3
  have f3 := h.lg.fr 3
  have hm : L.D.may 0 = 0 := by
    unfold Dk.may
    rw [if_neg (by rw [hk.down]; decide), if_neg (by omega)]
  rcases Bool.eq_false_or_eq_true L.fz with hfz | hfz
  · have e := Lib.hid (show L.sync = (L, 8) by unfold Lg.sync; rw [if_pos hfz])
    rw [hfz] at c3
    clear h hfz hm
    go_enter Try.func80, Try.ntmps80
    go_wp2_with fail
    go_ret
    rw [e.out]
    exact ⟨rfl, H.out⟩
  · rw [hfz] at c3
    have HFZ := Lib.hid hfz
    by_cases hf : L.D.fuse = 0
    · have e := Lib.hid (show L.sync = ({ L with fz := true }, 6) by unfold Lg.sync; rw [if_neg (by rw [hfz]; decide), if_pos hf])
      have S := Lib.hid (ds_sync_fused h.ds hm hf)
      clear h hfz hm hf
      go_enter Try.func80, Try.ntmps80
      go_wp2_with fail
      refine S.out.mono ?_
      rintro r w1 ⟨rfl, hd, hs⟩
      have HL := Lib.hid (H.out.disk hd hs)
      clear hd hs c0 c3 f3
      have c3 := HL.out.lg.c3
      have f3 := HL.out.lg.fr 3
      go_wp2_with fail
      go_ret
      rw [e.out]
      exact ⟨rfl, HL.out.setFz true⟩
    · have e := Lib.hid (show L.sync = ({ L with D := L.D.burnt.settled fun _ => true }, 0) by unfold Lg.sync; rw [if_neg (by rw [hfz]; decide), if_neg hf])
      have S := Lib.hid (ds_sync h.ds hm hf (by have := hk.fuse; omega) (by have := hk.len; omega))
      clear h hfz hm hf
      go_enter Try.func80, Try.ntmps80
      go_wp2_with fail
      refine S.out.mono ?_
      rintro r w1 ⟨rfl, hd, hs⟩
      have HL := Lib.hid (H.out.disk hd hs)
      clear hd hs c0 c3 f3
      go_wp2_with fail
      go_ret
      rw [e.out]
      exact ⟨rfl, HL.out⟩
end Go.Proofs.Ytmaaljfcnnlnpaa
