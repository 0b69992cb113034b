/-
  The walk of the law SegFrozen.
-/
import Derived.Test.YtmaaljfcnnlnpaaSegLaw2
import Derived.Test.YtmaaljfcnnlnpaaOpen4
namespace Go.Proofs.Ytmaaljfcnnlnpaa
open Go.RowKit

def FewS (n : Nat) (l : Nat → Sa) (r : Ending) : Prop := ∃ b : Bool, r = .returned (.bool b) ∧ (b = true → n ≤ 30 ∧ ∀ i, i < n → (l i).text.size ≤ 5000 ∧ (l i).kn ≤ 300)

set_option maxRecDepth 100000 in
set_option maxHeartbeats 2000000 in
theorem few19 {W : World} {v : Value} {n : Nat} {l : Nat → Sa} (h : SasAt W v n l) :
    Calls Try.prog 79 #[v] W fun r w' => FewS n l r ∧ W = w' := by
  obtain ⟨a, cap, rfl, hn, h⟩ := h
  unfold maxLen at hn
  have H := Lib.hid h
  clear h
  go_enter Try.func79, Try.ntmps79
  go_wp2_with fail
  go_loop [3, 4, 5, 6, 7, 8, 9, 10, 11, 12, 13, 14, 15, 16, 17, 18, 19, 20, 21, 22, 23, 24, 25, 26, 27, 28, 29] (fun a3 _ _ _ _ _ _ _ _ _ _ _ _ _ _ _ _ _ _ _ _ _ _ _ _ _ _ => ∃ k : Nat, k ≤ n ∧ k ≤ 31 ∧ a3 = .int .i64 k ∧ (∀ i, i < k → (l i).text.size ≤ 5000 ∧ (l i).kn ≤ 300)) (fun a3 _ _ _ _ _ _ _ _ _ _ _ _ _ _ _ _ _ _ _ _ _ _ _ _ _ _ => n - (intOf a3).toNat)
  case atStart => exact ⟨0, Nat.zero_le _, by omega, rfl, fun i hi => by omega⟩
  case round =>
    obtain ⟨k, hk, hk2, rfl, hall⟩ := hrel
    have HA := Lib.hid hall
    clear hall
    by_cases hlt : k < n
    · by_cases h30 : k ≤ 30
      · rcases H.out with h0 | ⟨b, o, rfl, hc⟩
        · omega
        have hs := hc k hlt
        have c1 : W.cell? ⟨b, o + k * 4 + 1, none⟩ = some (.string (l k).text) := hs.c1
        have c2 : W.cell? ⟨b, o + k * 4 + 2, none⟩ = some (l k).kv := hs.c2
        obtain ⟨ka, kcap, hkv, _⟩ := hs.keep
        have hm := hs.kn
        have hx := hs.text
        unfold maxLen at hm hx
        rw [hkv] at c2
        have HK := Lib.hid (fun (h1 : (l k).text.size ≤ 5000) (h2 : (l k).kn ≤ 300) => (show ∀ i, i < k + 1 → (l i).text.size ≤ 5000 ∧ (l i).kn ≤ 300 from fun i hi => by
          by_cases e : i = k
          · subst e; exact ⟨h1, h2⟩
          · exact HA.out i (by omega)))
        clear hs hkv H HA hc
        generalize (l k).text = tx at *
        generalize (l k).kn = m at *
        by_cases ht : 5000 < tx.size
        · have htb : decide ((5000 : Int) < (tx.size : Int)) = true := by simp; omega
          go_wp2_with fail
          go_ret
          exact ⟨⟨false, rfl, fun h => by cases h⟩, rfl⟩
        · have htb : decide ((5000 : Int) < (tx.size : Int)) = false := by simp; omega
          by_cases hm2 : 300 < m
          · have hmb : decide ((300 : Int) < (m : Int)) = true := by simp; omega
            go_wp2_with fail
            go_ret
            exact ⟨⟨false, rfl, fun h => by cases h⟩, rfl⟩
          · have hmb : decide ((300 : Int) < (m : Int)) = false := by simp; omega
            go_wp2_with fail
            exact ⟨⟨k + 1, by omega, by omega, by simp, HK.out (by omega) (by omega)⟩, by simp only [intOf]; omega⟩
      · have h31 : k = 31 := by omega
        subst h31
        go_wp2_with fail
        go_ret
        exact ⟨⟨_, rfl, fun h => by simp at h; omega⟩, rfl⟩
    · have hke : k = n := by omega
      subst hke
      go_wp2_with fail
      go_ret
      exact ⟨⟨_, rfl, fun h => ⟨by simp at h; omega, HA.out⟩⟩, rfl⟩

/-- Texts, as values. -/
def strC (ts : List (List UInt8)) : List Value := ts.map fun t => Value.string ⟨t.toArray⟩

/-- Do the records' texts begin the texts? -/
def Begin (recs : List (Nat × List UInt8)) (ts : List (List UInt8)) : Prop := ∃ b, ts = recs.map Prod.snd ++ b

theorem recCells_get : ∀ (l : List (Nat × List UInt8)) (k : Nat) (hk : k < l.length), (recCells l)[k * 2 + 1]? = some (.string ⟨l[k].2.toArray⟩)
  | x :: l, 0, _ => rfl
  | x :: l, k + 1, h => by
    have := recCells_get l k (by simpa using h)
    rw [show (k + 1) * 2 + 1 = k * 2 + 1 + 2 by omega]
    exact this

set_option maxRecDepth 100000 in
set_option maxHeartbeats 4000000 in
theorem begins_yes {W : World} {b1 b2 n1 n2 : Nat} {rv v : Value} {recs : List (Nat × List UInt8)} {ts : List (List UInt8)} (h1 : W.ownsRow b1 160 2 rv n1 (recCells recs)) (hn1 : n1 = recs.length) (h2 : W.ownsRow b2 9 1 v n2 (strC ts)) (hn2 : n2 = ts.length) (hb : Begin recs ts) (hl : recs.length ≤ 100000) :
    Calls Try.prog 81 #[rv, v] W fun r w' => r = .returned (.int .i64 1) ∧ Below W.heap.size W w' := by
  subst hn1 hn2
  obtain ⟨a1, c1, rfl⟩ := ownsRow_form h1
  obtain ⟨a2, c2, rfl⟩ := ownsRow_form h2
  obtain ⟨b, rfl⟩ := hb
  have hlen : recs.length ≤ (recs.map Prod.snd ++ b).length := by simp
  have HC : Hid (∀ k, k < recs.length → ∃ (g1 g2 : Nat) (tx : ByteArray), a1 = some ⟨g1, 0, none⟩ ∧ a2 = some ⟨g2, 0, none⟩ ∧ W.cell? ⟨g1, k * 2 + 1, none⟩ = some (.string tx) ∧ W.cell? ⟨g2, k, none⟩ = some (.string tx)) := Lib.hid (fun k hk => by
    obtain ⟨g1, cc1, e1, _, _⟩ := h1.form (by omega)
    obtain ⟨g2, cc2, e2, _, _⟩ := h2.form (by omega)
    injection e1 with e1 _ e1c
    injection e2 with e2 _ e2c
    subst e1 e2
    refine ⟨g1, g2, _, rfl, rfl, own_cell h1 (k * 2 + 1) _ (recCells_get recs k hk), own_cell h2 k _ ?_⟩
    unfold strC
    rw [List.getElem?_map, List.getElem?_append_left (by simpa using hk), List.getElem?_map, List.getElem?_eq_getElem hk]
    rfl)
  clear h1 h2
  generalize (recs.map Prod.snd ++ b).length = n2 at *
  generalize recs.length = n1 at *
  go_enter Try.func81, Try.ntmps81
  go_wp2_with fail
  go_loopw [5, 6, 7, 8, 9, 10, 11, 12, 13, 14, 15, 16, 17, 18, 19, 20, 21, 22, 23, 24, 25, 26, 27] (fun a5 _ _ _ _ _ _ _ _ _ _ _ _ _ _ _ _ _ _ _ _ _ _ wr => ∃ k : Nat, k ≤ n1 ∧ a5 = .int .i64 k ∧ (∃ q, wr = W.drewN q)) (fun a5 _ _ _ _ _ _ _ _ _ _ _ _ _ _ _ _ _ _ _ _ _ _ _ => n1 - (intOf a5).toNat)
  case atStart => exact ⟨0, by omega, rfl, 0, rfl⟩
  case round =>
    obtain ⟨k, hk, rfl, q, rfl⟩ := hrel
    by_cases hlt : k < n1
    · obtain ⟨g1, g2, tx, rfl, rfl, x1, x2⟩ := HC.out k hlt
      have hkn : decide (n2 ≤ k) = false := by simp; omega
      have hi0 : (0 : Int) ≤ (k : Int) := by omega
      have hi1 : (k : Int) < (n1 : Int) := by omega
      have hi2 : (k : Int) < (n2 : Int) := by omega
      go_wp2_with fail
      go_quiet (fail)
      go_wp2_with fail
      exact ⟨⟨k + 1, by omega, by simp, q + nq, rfl⟩, by simp only [intOf]; omega⟩
    · have hke : k = n1 := by omega
      subst hke
      go_wp2_with fail
      go_ret
      exact ⟨rfl, (Below.refl _ _).drewN q⟩

theorem app_ok {L : Lg} (h : L.ok) (P : Nat) (hP : (P : Int) ≤ L.D.size) (rec : List UInt8) (hlen : L.D.loose.length ≤ 70000) : (L.app P rec).1.ok ∧ (L.app P rec).1.D.loose.length ≤ L.D.loose.length + 200 ∧ (L.app P rec).1.D.size = L.D.size := by
  unfold Lg.app
  split
  · exact ⟨h, by show L.D.loose.length ≤ _; omega, rfl⟩
  · rename_i h1
    split
    · exact ⟨h, by show L.D.loose.length ≤ _; omega, rfl⟩
    · split
      · exact ⟨h, by show L.D.loose.length ≤ _; omega, rfl⟩
      · rename_i h3
        have hl := pieces_length 0 rec
        have hc : cnt rec.length ≤ 84 := by unfold cnt; omega
        obtain ⟨b1, b2, b3, b4⟩ := puts_ok P (pieces 0 rec) L h hP (by rw [hl]; omega) (by rw [hl]; omega)
        rw [hl] at b2
        split
        · exact ⟨b1, Nat.le_trans b2 (by omega), b3⟩
        · exact ⟨b1, Nat.le_trans b2 (by omega), b3⟩

theorem app_fz (L : Lg) (P : Nat) (rec : List UInt8) (h : L.fz = true) : (L.app P rec).1 = L ∧ (L.app P rec).2.2 ≠ 0 ∧ (L.app P rec).2.2 ≠ 6 := by
  unfold Lg.app
  split
  · exact ⟨rfl, show ¬ (10 : Nat) = 0 by decide, show ¬ (10 : Nat) = 6 by decide⟩
  · exact ⟨rfl, show ¬ (8 : Nat) = 0 by decide, show ¬ (8 : Nat) = 6 by decide⟩

theorem sync_ok {L : Lg} (h : L.ok) : L.sync.1.ok ∧ L.sync.1.D.loose.length ≤ L.D.loose.length ∧ L.sync.1.D.size = L.D.size := by
  unfold Lg.sync
  split
  · exact ⟨h, Nat.le_refl _, rfl⟩
  · split
    · exact ⟨⟨h.down, h.fuse, h.len, h.ep, h.nx, h.size⟩, Nat.le_refl _, rfl⟩
    · refine ⟨⟨h.down, ?_, Nat.zero_le _, h.ep, h.nx, h.size⟩, Nat.zero_le _, rfl⟩
      have := h.fuse
      show -1 ≤ max (L.D.fuse - 1) (-1) ∧ max (L.D.fuse - 1) (-1) ≤ 1000000
      omega

/-- A log of 64 pages that bears texts, behind so many acts. -/
structure Fro (L : Lg) (ts : List (List UInt8)) (i : Nat) : Prop where
  ok : L.ok
  size : L.D.size = 64
  len : L.D.loose.length ≤ 200 * i
  li : ∃ new m, LI (fun _ => none) 64 1 0 Sc.zero L new m ∧ (L.fz = false → (endS (fun _ => none) 0 Sc.zero new).jn = Jn.zero) ∧ (endS (fun _ => none) 0 Sc.zero new).recs.map Prod.snd = ts

theorem Fro.le {L : Lg} {ts : List (List UInt8)} {i : Nat} (h : Fro L ts i) : L.nx ≤ 64 := h.li.elim fun _ h => h.elim fun _ h => h.1.le

theorem Fro.app {L : Lg} {ts : List (List UInt8)} {i : Nat} (h : Fro L ts i) (hi : i ≤ 100) (rec : List UInt8) :
    ((L.app 64 rec).2.2 = 0 → Fro (L.app 64 rec).1 (ts ++ [rec]) (i + 1)) ∧ ((L.app 64 rec).2.2 ≠ 0 → Fro (L.app 64 rec).1 ts (i + 1)) ∧ (L.app 64 rec).1.fz = (L.fz || (L.app 64 rec).2.2 == 6) ∧ (L.fz = true → (L.app 64 rec).2.2 ≠ 0 ∧ (L.app 64 rec).2.2 ≠ 6) := by
  have hlen := h.len
  obtain ⟨o1, o2, o3⟩ := app_ok h.ok 64 (by rw [h.size]; decide) rec (by omega)
  obtain ⟨new, m, l1, l2, l3⟩ := h.li
  obtain ⟨b, k1, k2, k3⟩ := app_LI l1 rec l2
  refine ⟨fun e => ?_, fun e => ?_, ?_, fun hz => (app_fz L 64 rec hz).2⟩
  · obtain ⟨z1, z2, x, z3⟩ := k2 e
    exact ⟨o1, o3.trans h.size, Nat.le_trans o2 (by omega), _, _, k1, fun _ => z2, by rw [z3, List.map_append, l3]; rfl⟩
  · obtain ⟨z1, z2⟩ := k3 e
    refine ⟨o1, o3.trans h.size, Nat.le_trans o2 (by omega), _, _, k1, fun hz => ?_, by rw [z1, l3]⟩
    rcases z2 with ⟨y1, y2, _⟩ | ⟨_, y2, _⟩
    · rw [y1] at hz
      rw [y2, List.append_nil]
      exact l2 hz
    · rw [y2] at hz; cases hz
  · rcases Bool.eq_false_or_eq_true L.fz with hz | hz
    · rw [(app_fz L 64 rec hz).1, hz]; rfl
    · rw [hz, Bool.false_or]
      by_cases e : (L.app 64 rec).2.2 = 0
      · rw [(k2 e).1, e]; rfl
      · rcases (k3 e).2 with ⟨y1, _, y3⟩ | ⟨y1, y2, _⟩
        · rw [y1, hz]; simp [y3]
        · rw [y2, y1]; rfl

theorem Fro.sync {L : Lg} {ts : List (List UInt8)} {i : Nat} (h : Fro L ts i) :
    Fro L.sync.1 ts (i + 1) ∧ L.sync.1.fz = (L.fz || L.sync.2 == 6) ∧ (L.fz = true → L.sync.2 ≠ 0 ∧ L.sync.2 ≠ 6) := by
  have hlen := h.len
  obtain ⟨o1, o2, o3⟩ := sync_ok h.ok
  obtain ⟨new, m, l1, l2, l3⟩ := h.li
  obtain ⟨m', k1, k2, k3⟩ := sync_LI l1
  refine ⟨⟨o1, o3.trans h.size, Nat.le_trans o2 (by omega), new, m', k1, fun hz => ?_, l3⟩, ?_, fun hz => ?_⟩
  · by_cases e : L.sync.2 = 0
    · exact l2 (k2 e).2.2
    · rcases (k3 e).2 with ⟨y1, y2, _⟩ | ⟨_, y2, y3⟩
      · exact l2 (y1 ▸ hz)
      · exact l2 y3
  · by_cases e : L.sync.2 = 0
    · rw [(k2 e).2.1, (k2 e).2.2, e]; rfl
    · rcases (k3 e).2 with ⟨y1, y2, y3⟩ | ⟨y1, y2, y3⟩
      · rw [y1, y2]; rfl
      · rw [y2, y3, y1]; rfl
  · have : L.sync = (L, 8) := by unfold Lg.sync; rw [if_pos hz]
    rw [this]
    exact ⟨show ¬ (8 : Nat) = 0 by decide, show ¬ (8 : Nat) = 6 by decide⟩

theorem Fro.scan {L : Lg} {ts : List (List UInt8)} {i : Nat} (h : Fro L ts i) : (stepTo L.D.pgs 64 64).recs.map Prod.snd = ts := by
  obtain ⟨new, m, l1, l2, l3⟩ := h.li
  obtain ⟨n', s', g1, g2⟩ := cur_good l1
  rw [(scan_good g1 (by decide)).1, g2]
  exact l3

/-- A text appended to the law's own row. -/
theorem LS.append {w W X W' : World} {g d m1 m2 : Nat} {L : Lg} {v : Value} {F : Nat → Option Obj} {g2 : Nat} (h : LS w W g d m1 m2 L (rvl v) F) (hX : Below W.heap.size W X) (hg : X.grownBy W' v.ownBlock) (hloc : v.ownBlock = some g2 ∨ g2 = X.heap.size) (hlt : g2 < W'.heap.size) :
    LS w W' g d m1 m2 L [g2] (fun k => W'.heap[k]?) := by
  have hk : ∀ k, k < W.heap.size → v.ownBlock ≠ some k → W'.heap[k]? = W.heap[k]? := fun k h1 h2 => (hg.block k (Nat.lt_of_lt_of_le h1 hX.size) (fun e => h2 e.symm)).trans (hX.block k h1)
  have hsz : W.heap.size ≤ W'.heap.size := Nat.le_trans hX.size hg.size
  have hgl := h.lg.lt
  have hge : ∀ k, v.ownBlock = some k → w.heap.size ≤ k := fun k e => h.ds.lge k (.tail _ (mem_rvl.2 e))
  obtain ⟨dv, hd, hl⟩ := h.ds.dk
  have hvd : ∀ k, v.ownBlock = some k → k ≠ d ∧ k ≠ m1 ∧ k ≠ m2 ∧ dv.ownBlock ≠ some k ∧ k < W.heap.size := fun k e => by
    have := hl k (.tail _ (mem_rvl.2 e))
    exact ⟨this.2.1, this.2.2.1, this.2.2.2.1, this.2.2.2.2, this.1⟩
  have o1 := hd.o1
  have o2 := hd.o2
  have dl := hd.lt
  have ngg : v.ownBlock ≠ some g := fun e => h.ng (mem_rvl.2 e)
  refine ⟨⟨⟨hg.os.trans (hX.os.trans h.ds.below.os), hg.tape.trans (hX.tape.trans h.ds.below.tape), hg.output.trans (hX.output.trans h.ds.below.output), Nat.le_trans h.ds.below.size hsz, fun k hk2 => ?_⟩, h.ds.ge, ⟨dv, ?_, fun k hk2 => ?_⟩, fun k hk2 => ?_⟩, h.lg.of_block (hk g hgl ngg) (Nat.lt_of_lt_of_le hgl hsz), fun _ _ => rfl, fun hm => ?_⟩
  · exact (hk k (Nat.lt_of_lt_of_le hk2 h.ds.below.size) (fun e => by have := hge k e; omega)).trans (h.ds.below.block k hk2)
  · refine hd.of_blocks hsz (hk d dl (fun e => (hvd d e).1 rfl)) (hk m1 (by omega) (fun e => (hvd m1 e).2.1 rfl)) (hk m2 (by omega) (fun e => (hvd m2 e).2.2.1 rfl)) (fun x hx => hk x (ownsRow_ge hd.row hx).2 (fun e => (hvd x e).2.2.2.1 hx))
  · rcases List.mem_cons.1 hk2 with rfl | hk2
    · have := hl k (.head _)
      exact ⟨Nat.lt_of_lt_of_le this.1 hsz, this.2⟩
    · obtain rfl : k = g2 := by simpa using hk2
      rcases hloc with e | e
      · have := hvd k e
        exact ⟨hlt, this.1, this.2.1, this.2.2.1, this.2.2.2.1⟩
      · have := hX.size
        refine ⟨hlt, by omega, by omega, by omega, fun e2 => ?_⟩
        have := (ownsRow_ge hd.row e2).2
        omega
  · rcases List.mem_cons.1 hk2 with rfl | hk2
    · exact h.ds.lge k (.head _)
    · obtain rfl : k = g2 := by simpa using hk2
      rcases hloc with e | e
      · exact hge k e
      · have := hX.size
        have := h.ds.below.size
        omega
  · obtain rfl : g = g2 := by simpa using hm
    rcases hloc with e | e
    · exact ngg e
    · have := hX.size
      omega
theorem info9 : (Try.prog.info? 9).map (fun i => (i.zero, i.size, i.bytes)) = some (some (.string ⟨#[]⟩), 1, 16) := by kernel_rfl
theorem strC_snoc (ts : List (List UInt8)) (s : ByteArray) : strC (ts ++ [s.data.toList]) = strC ts ++ [.string s] := by simp [strC]

theorem Fro.new {D : Dk} (h : D.fresh 64) (f : Int) (hf : -1 ≤ f ∧ f ≤ 1000000) : Fro ⟨{ D with fuse := f }, 1, 0, false⟩ [] 0 := by
  have k := fresh_LI h 64 (by decide)
  have o := fresh_ok h (by decide)
  exact ⟨⟨o.down, hf, o.len, o.ep, o.nx, o.size⟩, h.size, by show D.loose.length ≤ 0; rw [h.loose]; exact Nat.le_refl _, [], 0, ⟨k.good, k.ep, k.lt, k.nx, k.le, k.hP, k.fine, k.chain, k.hm, k.sure, k.loose⟩, fun _ => rfl, rfl⟩

theorem ls_fuse {w W : World} {g d m1 m2 : Nat} {L : Lg} {l : List Nat} {F : Nat → Option Obj} (h : LS w W g d m1 m2 L l F) (n : Int) :
    Calls Try.prog 69 #[.pointer (some ⟨d, 0, none⟩), .int .i64 n] W fun r w' => r = .returned (.tuple #[]) ∧ LS w w' g d m1 m2 { L with D := { L.D with fuse := max n (-1) } } l F := by
  refine (ds_fuse h.ds n).mono ?_
  rintro r w' ⟨rfl, hd, hs⟩
  exact ⟨rfl, h.disk hd hs⟩

/-- The loop's state. -/
structure FrS (w W : World) (g d m1 m2 : Nat) (v : Value) (L : Lg) (ts : List (List UInt8)) (i : Nat) : Prop where
  fro : Fro L ts i
  ls : LS w W g d m1 m2 L (rvl v) (fun k => W.heap[k]?)
  row : W.ownsRow w.heap.size 9 1 v ts.length (strC ts)
  le : ts.length ≤ i

set_option maxRecDepth 100000 in
set_option maxHeartbeats 8000000 in
theorem segFrozen_walk (v0 : Value) (n1 : Nat) (b1 : n1 < 256) (w : World) (h0 : SasArg w v0) :
    Calls Try.prog 26 #[v0, .int .u8 n1] w fun r w' => r = .returned (.bool true) ∧ Below w.heap.size w w' := by
  obtain ⟨n, l, ha⟩ := h0
  have A := Lib.hid (fun W => awake19 W)
  have FW := Lib.hid (fun W (hb : Below w.heap.size w W) => few19 (ha.below hb))
  have N := Lib.hid (fun W (hb : Below w.heap.size w W) => fresh_new 64 (by decide) (by decide) hb)
  have HA := Lib.hid ha
  obtain ⟨i0, hi, hz0, hz1, hz2⟩ := info_parts info9
  have HI := Lib.hid (And.intro hi (And.intro hz0 (And.intro hz1 hz2)))
  clear hi hz0 hz1 hz2
  obtain ⟨a0, cap0, rfl, hn, -⟩ := ha
  unfold maxLen at hn
  go_enter Try.func26, Try.ntmps26
  go_wp2_with fail
  refine (A.out _).mono ?_
  rintro r w1 ⟨rfl, hb1⟩
  go_wp2_with fail
  refine (FW.out _ hb1).mono ?_
  rintro r w2 ⟨⟨b, rfl, hb30⟩, rfl⟩
  have HB := Lib.hid hb1
  clear hb1 FW
  rcases Bool.eq_false_or_eq_true b with rfl | rfl
  · obtain ⟨hn30, hsm⟩ := hb30 rfl
    have HSM := Lib.hid hsm
    clear hb30 hsm hn
    go_wp2_with fail
    refine (N.out _ HB.out).mono ?_
    rintro r w3 ⟨d, m1, m2, D, rfl, hD, hS⟩
    have O := Lib.hid (fresh_open hS 64 hD (by decide) (by decide))
    clear hS N A hD HB
    go_wp2_with fail
    refine O.out.mono ?_
    rintro r w4 ⟨ra, rc, g, E, rfl, hE, hL, -⟩
    obtain ⟨f, hf, hf1, hf2⟩ : ∃ f : Nat, (n1 : Int) % 30 = f ∧ max (f : Int) (-1) = f ∧ f < 30 := ⟨n1 % 30, by omega, by omega, by omega⟩
    have FU := ls_fuse hL (f : Int)
    rw [hf1] at FU
    have FU := Lib.hid FU
    have F0 := Lib.hid (Fro.new hE (f : Int) (by omega))
    have HF := Lib.hid hf
    clear hL hE O hf hf1
    go_wp2_with fail
    rw [HF.out]
    refine FU.out.mono ?_
    rintro r w5 ⟨rfl, hL⟩
    have HS0 : Hid (FrS w w5 g d m1 m2 (.slice none 0 0) ⟨{ E with fuse := f }, 1, 0, false⟩ [] 0) := Lib.hid ⟨F0.out, ⟨hL.ds, hL.lg, fun k hk => (by cases hk), fun hk => (by cases hk)⟩, World.ownsRow_nil _ _ _ _, Nat.le_refl _⟩
    clear hL FU F0
    go_wp2_with fail
    go_loopw [10, 11, 12, 13, 41, 42, 43, 44, 45, 46, 47, 48, 49, 50, 51, 52, 53, 54, 55, 56, 57, 58, 59, 60, 61, 62, 63, 64, 65, 66, 67, 68, 69, 70, 71, 72, 73, 74, 75, 76, 77, 78, 79, 80, 81, 82, 83, 84, 85, 86, 87, 88, 89, 90, 91, 92, 93, 94, 95, 96] (fun a10 a11 a12 _ _ _ _ _ _ _ _ _ _ _ _ _ _ _ _ _ _ _ _ _ _ _ _ _ _ _ _ _ _ _ _ _ _ _ _ _ _ _ _ _ _ _ _ _ _ _ _ _ _ _ _ _ _ _ _ _ wr => ∃ (i : Nat) (v : Value) (L : Lg) (ts : List (List UInt8)), i ≤ n ∧ a12 = .int .i64 i ∧ a10 = v ∧ a11 = .bool L.fz ∧ FrS w wr g d m1 m2 v L ts i) (fun _ _ a12 _ _ _ _ _ _ _ _ _ _ _ _ _ _ _ _ _ _ _ _ _ _ _ _ _ _ _ _ _ _ _ _ _ _ _ _ _ _ _ _ _ _ _ _ _ _ _ _ _ _ _ _ _ _ _ _ _ _ => n - (intOf a12).toNat)
    case atStart => exact ⟨0, _, _, [], by omega, rfl, rfl, rfl, HS0.out⟩
    case round =>
      obtain ⟨i, v, L, ts, hi, rfl, rfl, rfl, hS⟩ := hrel
      have HS := Lib.hid hS
      clear hS HS0
      by_cases hlt : i < n
      · obtain ⟨a1, cap1, e1, _, h0 | ⟨b, o, rfl, hc⟩⟩ := HA.out
        · omega
        injection e1 with e1 _ e1c
        subst e1
        clear e1c
        have hc := hc i hlt
        have HC := Lib.hid hc
        have c0 : wr.cell? ⟨b, o + i * 4, none⟩ = some (.int .u8 (l i).act) := (hc.below HS.out.ls.ds.below).c0
        have hact := hc.act
        have hi100 : i ≤ 100 := by omega
        have f1 := HS.out.fro
        clear hc
        have hi0 : (0 : Int) ≤ (i : Int) := by omega
        have hi1 : (i : Int) < (n : Int) := by omega
        by_cases h5 : (l i).act % 8 = 5
        · have h5b : ((((l i).act : Int) % 8) == 5) = true := by rw [beq_iff_eq]; omega
          obtain ⟨k1, k2, k3⟩ := f1.sync
          have SY := Lib.hid (lsync_any HS.out.ls f1.ok (by rw [f1.size]; decide))
          have hrow := HS.out.row
          have hle := HS.out.le
          generalize L.sync = R at *
          obtain ⟨L', e⟩ := R
          dsimp only at k1 k2 k3
          have K1 := Lib.hid k1
          have K2 := Lib.hid k2
          have K3 := Lib.hid k3
          have HRW := Lib.hid hrow
          clear k1 k2 k3 f1 h5 hrow
          go_wp2_with fail
          refine SY.out.mono ?_
          rintro r w6 ⟨rfl, hL⟩
          have HS' : Hid (FrS w w6 g d m1 m2 u10 L' ts (i + 1)) := Lib.hid ⟨K1.out, ⟨hL.ds, hL.lg, fun _ _ => rfl, hL.ng⟩, ownsRow_stays HRW.out hL.st, by omega⟩
          clear hL SY HRW K1 c0 h5b
          go_upto_region 17 with fail
          rcases Bool.eq_false_or_eq_true L.fz with hz | hz
          · obtain ⟨e0, e6⟩ := K3.out hz
            have b0 : ((e : Int) == 0) = false := by rw [beq_eq_false_iff_ne]; omega
            have b6 : ((e : Int) == 6) = false := by rw [beq_eq_false_iff_ne]; omega
            have hfz : L'.fz = true := by rw [K2.out, hz]; rfl
            rw [hz]
            have FZ := frozen_any HS'.out.ls.lg
            rw [hfz] at FZ
            have FZ := Lib.hid FZ
            have HFZ := Lib.hid hfz
            clear hz hfz e0 e6
            go_wp2_with fail
            refine FZ.out.mono ?_
            rintro r w9 ⟨rfl, rfl⟩
            go_wp2_with fail
            exact ⟨⟨i + 1, u10, L', ts, by omega, by simp, rfl, by rw [HFZ.out], HS'.out⟩, by simp only [intOf]; omega⟩
          · rw [hz]
            by_cases h6 : e = 6
            · have b6 : ((e : Int) == 6) = true := by rw [beq_iff_eq]; omega
              have hfz : L'.fz = true := by rw [K2.out, hz, h6]; rfl
              have FZ := frozen_any HS'.out.ls.lg
              rw [hfz] at FZ
              have FZ := Lib.hid FZ
              have HFZ := Lib.hid hfz
              clear hz hfz h6
              go_wp2_with fail
              refine FZ.out.mono ?_
              rintro r w9 ⟨rfl, rfl⟩
              go_wp2_with fail
              exact ⟨⟨i + 1, u10, L', ts, by omega, by simp, rfl, by rw [HFZ.out], HS'.out⟩, by simp only [intOf]; omega⟩
            · have b6 : ((e : Int) == 6) = false := by rw [beq_eq_false_iff_ne]; omega
              have hfz : L'.fz = false := by rw [K2.out, hz]; simp [h6]
              have FZ := frozen_any HS'.out.ls.lg
              rw [hfz] at FZ
              have FZ := Lib.hid FZ
              have HFZ := Lib.hid hfz
              clear hz hfz h6
              go_wp2_with fail
              refine FZ.out.mono ?_
              rintro r w9 ⟨rfl, rfl⟩
              go_wp2_with fail
              exact ⟨⟨i + 1, u10, L', ts, by omega, by simp, rfl, by rw [HFZ.out], HS'.out⟩, by simp only [intOf]; omega⟩
        · have h5b : ((((l i).act : Int) % 8) == 5) = false := by rw [beq_eq_false_iff_ne]; omega
          have c1 : wr.cell? ⟨b, o + i * 4 + 1, none⟩ = some (.string (l i).text) := (HC.out.below HS.out.ls.ds.below).c1
          have hsz := (HSM.out i hlt).1
          obtain ⟨k1, k2, k3, k4⟩ := f1.app hi100 (l i).text.data.toList
          have AP := Lib.hid (append_any HS.out.ls f1.ok 64 f1.size 64 rfl f1.le (by have := f1.len; omega) (l i).text (by omega))
          have hrow := HS.out.row
          have hle := HS.out.le
          have C1 := Lib.hid (fun X (hX : Below w.heap.size w X) => (HC.out.below hX).c1)
          have hsn := Lib.hid (strC_snoc ts (l i).text)
          generalize (l i).text = tx at *
          generalize L.app 64 tx.data.toList = R at *
          obtain ⟨L', at_, e⟩ := R
          dsimp only at k1 k2 k3 k4
          have K0 := Lib.hid k1
          have K1 := Lib.hid k2
          have K2 := Lib.hid k3
          have K3 := Lib.hid k4
          have HRW := Lib.hid hrow
          clear k1 k2 k3 k4 f1 h5 hrow hsz
          go_wp2_with fail
          refine AP.out.mono ?_
          rintro r w6 ⟨rfl, hL⟩
          have HRW := Lib.hid (ownsRow_stays HRW.out hL.st)
          have HL : Hid (LS w w6 g d m1 m2 L' (rvl u10) (fun k => w6.heap[k]?)) := Lib.hid ⟨hL.ds, hL.lg, fun _ _ => rfl, hL.ng⟩
          clear hL AP c0 c1 h5b
          by_cases he : e = 0
          · subst he
            have K1 := Lib.hid (K0.out rfl)
            have c1 : w6.cell? ⟨b, o + i * 4 + 1, none⟩ = some (.string tx) := C1.out _ HL.out.ds.below
            have HLE := Lib.hid hle
            clear C1
            go_upto_region 17 with (refine wpList_append_lies _ (by rfl) _ _ 71 (by rfl) w.heap.size 9 i0 (.string ⟨#[]⟩) 1 16 Try.underlying71 HI.out.1 HI.out.2.1 HI.out.2.2.1 HI.out.2.2.2 (by rfl) (by decide) u10 ts.length (strC ts) (by rfl) (HRW.out.alloc _) ⟨w6.heap.size, 0, none⟩ 1 1 [.string tx] (by rfl) rfl (cell_one_new _ _ _) (by simp [Value.oneCell']) (by decide) (by unfold maxLen; omega) (by omega) (Nat.le_trans HL.out.ds.below.size (by simp)) _ rfl ?_; intro g2 cap2 w8 hown hgrow hloc hlt2; have HL := Lib.hid (LS.append HL.out ((Below.refl _ _).alloc (Nat.le_refl _) _) hgrow hloc hlt2); rw [← hsn.out] at hown; have HRW := Lib.hid hown; clear hown hgrow hloc hlt2)
            have HS' : Hid (FrS w w8 g d m1 m2 (.slice (some ⟨g2, 0, none⟩) (ts.length + 1) cap2) L' (ts ++ [tx.data.toList]) (i + 1)) := Lib.hid ⟨K1.out, HL.out, by rw [List.length_append]; exact HRW.out, by rw [List.length_append]; exact Nat.add_le_add_right HLE.out 1⟩
            clear HL HRW K1 c1
            rcases Bool.eq_false_or_eq_true L.fz with hz | hz
            · exact absurd rfl (K3.out hz).1
            rw [hz]
            have hfz : L'.fz = false := by rw [K2.out, hz]; rfl
            have FZ := frozen_any HS'.out.ls.lg
            rw [hfz] at FZ
            have FZ := Lib.hid FZ
            have HFZ := Lib.hid hfz
            clear hz hfz
            go_wp2_with fail
            refine FZ.out.mono ?_
            rintro r w9 ⟨rfl, rfl⟩
            go_wp2_with fail
            exact ⟨⟨i + 1, _, L', _, by omega, by simp, rfl, by rw [HFZ.out], HS'.out⟩, by simp only [intOf]; omega⟩
          · have b0 : ((e : Int) == 0) = false := by rw [beq_eq_false_iff_ne]; omega
            have HS' : Hid (FrS w w6 g d m1 m2 u10 L' ts (i + 1)) := Lib.hid ⟨K1.out he, HL.out, HRW.out, by omega⟩
            clear HL HRW K0 K1 he
            go_upto_region 17 with fail
            clear b0
            rcases Bool.eq_false_or_eq_true L.fz with hz | hz
            · obtain ⟨e0, e6⟩ := K3.out hz
              have b0 : ((e : Int) == 0) = false := by rw [beq_eq_false_iff_ne]; omega
              have b6 : ((e : Int) == 6) = false := by rw [beq_eq_false_iff_ne]; omega
              have hfz : L'.fz = true := by rw [K2.out, hz]; rfl
              rw [hz]
              have FZ := frozen_any HS'.out.ls.lg
              rw [hfz] at FZ
              have FZ := Lib.hid FZ
              have HFZ := Lib.hid hfz
              clear hz hfz e0 e6
              go_wp2_with fail
              refine FZ.out.mono ?_
              rintro r w9 ⟨rfl, rfl⟩
              go_wp2_with fail
              exact ⟨⟨i + 1, u10, L', ts, by omega, by simp, rfl, by rw [HFZ.out], HS'.out⟩, by simp only [intOf]; omega⟩
            · rw [hz]
              by_cases h6 : e = 6
              · have b6 : ((e : Int) == 6) = true := by rw [beq_iff_eq]; omega
                have hfz : L'.fz = true := by rw [K2.out, hz, h6]; rfl
                have FZ := frozen_any HS'.out.ls.lg
                rw [hfz] at FZ
                have FZ := Lib.hid FZ
                have HFZ := Lib.hid hfz
                clear hz hfz h6
                go_wp2_with fail
                refine FZ.out.mono ?_
                rintro r w9 ⟨rfl, rfl⟩
                go_wp2_with fail
                exact ⟨⟨i + 1, u10, L', ts, by omega, by simp, rfl, by rw [HFZ.out], HS'.out⟩, by simp only [intOf]; omega⟩
              · have b6 : ((e : Int) == 6) = false := by rw [beq_eq_false_iff_ne]; omega
                have hfz : L'.fz = false := by rw [K2.out, hz]; simp [h6]
                have FZ := frozen_any HS'.out.ls.lg
                rw [hfz] at FZ
                have FZ := Lib.hid FZ
                have HFZ := Lib.hid hfz
                clear hz hfz h6
                go_wp2_with fail
                refine FZ.out.mono ?_
                rintro r w9 ⟨rfl, rfl⟩
                go_wp2_with fail
                exact ⟨⟨i + 1, u10, L', ts, by omega, by simp, rfl, by rw [HFZ.out], HS'.out⟩, by simp only [intOf]; omega⟩
      · have hke : i = n := by omega
        subst hke
        have SC := ls_scan HS.out.ls HS.out.fro.ok.down 64 HS.out.fro.size (by decide) (by decide) (by have := HS.out.fro.len; omega) 64 rfl
        have hsc := HS.out.fro.scan
        have hrl : (stepTo L.D.pgs 64 64).recs.length = ts.length := by rw [← hsc, List.length_map]
        have HBG : Hid (Begin (stepTo L.D.pgs 64 64).recs ts) := Lib.hid ⟨[], by rw [hsc, List.append_nil]⟩
        have HTL : Hid (ts.length ≤ 100000) := Lib.hid (by have := HS.out.le; omega)
        rw [hrl] at SC
        have HRW := Lib.hid HS.out.row
        generalize stepTo L.D.pgs 64 64 = st at *
        have SC := Lib.hid SC
        have HRL := Lib.hid hrl
        clear hsc HS hrl
        go_wp2_with fail
        refine SC.out.mono ?_
        rintro r w6 ⟨rv, E2, rfl, hE, hL, hst, hrow⟩
        have BG := Lib.hid (begins_yes hrow HRL.out.symm (ownsRow_stays HRW.out hst) rfl HBG.out (by rw [HRL.out]; exact HTL.out))
        obtain ⟨ra2, rc2, rfl⟩ := ownsRow_form hrow
        obtain ⟨ra3, rc3, rfl⟩ := ownsRow_form HRW.out
        have HL := Lib.hid hL
        clear hL SC hrow hst HRW
        go_wp2_with fail
        refine BG.out.mono ?_
        rintro r w7 ⟨rfl, hb⟩
        go_wp2_with fail
        go_ret
        exact ⟨rfl, HL.out.ds.below.trans (hb.mono HL.out.ds.below.size)⟩
  · go_wp2_with fail
    refine (A.out _).mono ?_
    rintro r w3 ⟨rfl, hb⟩
    go_wp2_with fail
    go_ret
    exact ⟨rfl, HB.out.trans (hb.mono HB.out.size)⟩
end Go.Proofs.Ytmaaljfcnnlnpaa