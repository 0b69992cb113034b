/-
  A log of the call's own, and the document's example.
-/
import Derived.Test.YtmaaljfcnnlnpaaSegWalk7
namespace Go.Proofs.Ytmaaljfcnnlnpaa
open Go.RowKit

/-- A row's block, if it has one. -/
def rvl (rv : Value) : List Nat := rv.ownBlock.toList
theorem mem_rvl {rv : Value} {k : Nat} : k ∈ rvl rv ↔ rv.ownBlock = some k := by
  unfold rvl
  cases rv.ownBlock <;> simp [eq_comm]

theorem rvl_nodup (rv : Value) : (rvl rv).length ≤ 1 := by
  unfold rvl
  cases rv.ownBlock <;> simp

/-- A row that stands. -/
theorem ownsRow_stays {W W' : World} {base : Nat} {e : TypeId} {size : Nat} {v : Value} {n : Nat} {xs : List Value} (h : W.ownsRow base e size v n xs) (hs : ∀ k ∈ rvl v, W'.heap[k]? = W.heap[k]?) : W'.ownsRow base e size v n xs :=
  ownsRow_of_block h (fun g hg => hs g (mem_rvl.2 hg))

/-- Two disks that differ in their readings alone. -/
structure Dk.like (E D : Dk) : Prop where
  size : E.size = D.size
  sure : E.sure = D.sure
  loose : E.loose = D.loose
  down : E.down = D.down
  fuse : E.fuse = D.fuse
theorem Dk.like.refl (D : Dk) : D.like D := ⟨rfl, rfl, rfl, rfl, rfl⟩
theorem Dk.like.trans {A B C : Dk} (h : A.like B) (k : B.like C) : A.like C := ⟨h.size.trans k.size, h.sure.trans k.sure, h.loose.trans k.loose, h.down.trans k.down, h.fuse.trans k.fuse⟩
theorem Dk.like.reads (D : Dk) (rd : Int → Int) : ({ D with reads := rd } : Dk).like D := ⟨rfl, rfl, rfl, rfl, rfl⟩
theorem Dk.like.seen {E D : Dk} (h : E.like D) (i : Int) : E.seen i = D.seen i := by unfold Dk.seen; rw [h.loose, h.sure]
theorem Dk.like.pgs {E D : Dk} (h : E.like D) : E.pgs = D.pgs := funext fun i => by unfold Dk.pgs; rw [h.seen]

section
variable {w W : World} {d m1 m2 : Nat} {D : Dk} {l : List Nat}

theorem ds_scan (h : DS w W d m1 m2 D l) (hdn : D.down = false) (N : Nat) (hN : D.size = N) (h32 : 32 ≤ N) (hN2 : N ≤ 1024) (hlen : D.loose.length ≤ 100000) (P : Nat) (hP : N / 16 * 16 = P) :
    Calls Try.prog 77 #[.pointer (some ⟨d, 0, none⟩)] W fun r w' => ∃ rv E, r = .returned (.tuple #[rv, .int .i64 (stepTo D.pgs P N).next, .int .u32 (mostTo D.pgs N), .int .i64 0]) ∧ E.like D ∧
      DS w w' d m1 m2 E (rvl rv ++ l) ∧ Stays W w' l ∧ w'.ownsRow W.heap.size 160 2 rv (stepTo D.pgs P N).recs.length (recCells (stepTo D.pgs P N).recs) := by
  obtain ⟨v, hv⟩ := h.dk
  refine (scan_any hv.1 hdn N hN h32 hN2 hlen P hP).mono ?_
  rintro r w' ⟨rv, rfl, hR⟩
  obtain ⟨rd, hd⟩ := hR.dk
  obtain ⟨k1, k2⟩ := h.call hv hd hR.fr
  have o1 := hv.1.o1
  have o2 := hv.1.o2
  have lt := hv.1.lt
  refine ⟨rv, _, rfl, Dk.like.reads D rd, ⟨k1.below, k1.ge, ⟨v, hd, fun k hk => ?_⟩, fun k hk => ?_⟩, k2, hR.row⟩
  · rcases List.mem_append.1 hk with hk | hk
    · have h1 := ownsRow_ge hR.row (mem_rvl.1 hk)
      refine ⟨h1.2, by omega, by omega, by omega, fun e => ?_⟩
      have := (ownsRow_ge hv.1.row e).2
      omega
    · obtain ⟨a1, a2, a3, a4, a5⟩ := hv.2 k hk
      exact ⟨Nat.lt_of_lt_of_le a1 hR.fr.size, a2, a3, a4, a5⟩
  · rcases List.mem_append.1 hk with hk | hk
    · have h1 := ownsRow_ge hR.row (mem_rvl.1 hk)
      have := h.below.size
      omega
    · exact h.lge k hk

theorem ds_open (h : DS w W d m1 m2 D l) (hdn : D.down = false) (N : Nat) (hN : D.size = N) (h32 : 32 ≤ N) (hN2 : N ≤ 1024) (hlen : D.loose.length ≤ 100000) (P : Nat) (hP : N / 16 * 16 = P) (hmo : mostTo D.pgs N < 1000000) :
    Calls Try.prog 74 #[.pointer (some ⟨d, 0, none⟩)] W fun r w' => ∃ rv g E, r = .returned (.tuple #[.pointer (some ⟨g, 0, none⟩), rv, .int .i64 0]) ∧ E.like D ∧
      LS w w' g d m1 m2 ⟨E, mostTo D.pgs N + 1, (stepTo D.pgs P N).next, false⟩ (rvl rv ++ l) (fun k => w'.heap[k]?) ∧ Stays W w' l ∧ w'.ownsRow W.heap.size 160 2 rv (stepTo D.pgs P N).recs.length (recCells (stepTo D.pgs P N).recs) := by
  obtain ⟨v, hv⟩ := h.dk
  refine (open_any hv.1 hdn N hN h32 hN2 hlen P hP hmo).mono ?_
  rintro r w' ⟨rv, g, rfl, hO⟩
  obtain ⟨rd, hd⟩ := hO.sc.dk
  obtain ⟨k1, k2⟩ := h.call hv hd hO.sc.fr
  have o1 := hv.1.o1
  have o2 := hv.1.o2
  have lt := hv.1.lt
  have hge := hO.ge
  have hglt := hO.lg.lt
  refine ⟨rv, g, _, rfl, Dk.like.reads D rd, ⟨⟨k1.below, k1.ge, ⟨v, hd, fun k hk => ?_⟩, fun k hk => ?_⟩, hO.lg, fun _ _ => rfl, fun hm => ?_⟩, k2, hO.sc.row⟩
  · rcases List.mem_cons.1 hk with rfl | hk
    · refine ⟨hglt, by omega, by omega, by omega, fun e => ?_⟩
      have := (ownsRow_ge hv.1.row e).2
      omega
    · rcases List.mem_append.1 hk with hk | hk
      · have h1 := ownsRow_ge hO.sc.row (mem_rvl.1 hk)
        refine ⟨h1.2, by omega, by omega, by omega, fun e => ?_⟩
        have := (ownsRow_ge hv.1.row e).2
        omega
      · obtain ⟨a1, a2, a3, a4, a5⟩ := hv.2 k hk
        exact ⟨Nat.lt_of_lt_of_le a1 hO.sc.fr.size, a2, a3, a4, a5⟩
  · rcases List.mem_cons.1 hk with rfl | hk
    · have := h.below.size
      omega
    · rcases List.mem_append.1 hk with hk | hk
      · have h1 := ownsRow_ge hO.sc.row (mem_rvl.1 hk)
        have := h.below.size
        omega
      · exact h.lge k hk
  · rcases List.mem_append.1 hm with hm | hm
    · exact hO.ne (mem_rvl.1 hm)
    · have := (hv.2 g hm).1
      omega
end

theorem read_zero : readB zero64 = (noPg, 3) := read_3 _ (by unfold Summed; decide +kernel)
theorem rdO_zero : rdO zero64 = none := by unfold rdO; rw [read_zero]; rfl
theorem new_pgs (n : Int) (i : Nat) : (Dk.new n).pgs i = none := rdO_zero

theorem stepTo_none (c : Nat → Option Pg) (hc : ∀ i, c i = none) (P : Nat) : ∀ k, (stepTo c P k).recs = [] ∧ (stepTo c P k).next = 0
  | 0 => ⟨rfl, rfl⟩
  | k + 1 => by
    have ih := stepTo_none c hc P k
    show ((stepTo c P k).one k (c k)).recs = [] ∧ ((stepTo c P k).one k (c k)).next = 0
    rw [hc k]
    exact ih
theorem mostTo_none (c : Nat → Option Pg) (hc : ∀ i, c i = none) : ∀ k, mostTo c k = 0
  | 0 => rfl
  | k + 1 => by
    show mostUp (mostTo c k) (c k) = 0
    rw [hc k]
    exact mostTo_none c hc k

/-- Without a fuse all goes well. -/
theorem wr_free (L : Lg) (p : Pg) (hf : L.D.fuse = -1) : (L.wr p).2 = 0 ∧ (L.wr p).1.D.fuse = -1 ∧ (L.wr p).1.fz = L.fz := by
  unfold Lg.wr
  rw [if_neg (by omega)]
  refine ⟨rfl, ?_, rfl⟩
  show max (L.D.fuse - 1) (-1) = -1
  omega
theorem put_free (L : Lg) (p : Pg) (hf : L.D.fuse = -1) : (L.put p).2 = 0 ∧ (L.put p).1.D.fuse = -1 ∧ (L.put p).1.fz = L.fz := by
  unfold Lg.put
  split
  · obtain ⟨a1, a2, a3⟩ := wr_free L ⟨0, 0, 1, false, false, headB L.nx⟩ hf
    rw [if_pos a1]
    obtain ⟨b1, b2, b3⟩ := wr_free (L.wr ⟨0, 0, 1, false, false, headB L.nx⟩).1 p a2
    exact ⟨b1, b2, b3.trans a3⟩
  · exact wr_free L p hf
theorem puts_free : ∀ (ps : List Pg) (L : Lg), L.D.fuse = -1 → (L.puts ps).2 = 0 ∧ (L.puts ps).1.D.fuse = -1 ∧ (L.puts ps).1.fz = L.fz
  | [], L, hf => ⟨rfl, hf, rfl⟩
  | p :: ps, L, hf => by
    obtain ⟨a1, a2, a3⟩ := put_free L p hf
    have e : L.puts (p :: ps) = (L.put p).1.puts ps := by
      show (if (L.put p).2 = 0 then (L.put p).1.puts ps else L.put p) = _
      rw [if_pos a1]
    rw [e]
    obtain ⟨b1, b2, b3⟩ := puts_free ps (L.put p).1 a2
    exact ⟨b1, b2, b3.trans a3⟩

theorem app_free (L : Lg) (hk : L.ok) (P : Nat) (hP : (P : Int) ≤ L.D.size) (rec : List UInt8) (h1 : 1 ≤ rec.length) (h2 : rec.length ≤ 4096) (hf : L.D.fuse = -1) (hz : L.fz = false) (hroom : L.nx + layLen L.nx (cnt rec.length) ≤ P) (hlen : L.D.loose.length ≤ 70000) :
    L.app P rec = ((L.puts (pieces 0 rec)).1, (if L.nx % 16 = 0 then L.nx + 1 else L.nx), 0) ∧ (L.puts (pieces 0 rec)).1.ok ∧ (L.puts (pieces 0 rec)).1.nx = L.nx + layLen L.nx (cnt rec.length) ∧ (L.puts (pieces 0 rec)).1.D.fuse = -1 ∧ (L.puts (pieces 0 rec)).1.fz = false ∧
      (L.puts (pieces 0 rec)).1.D.size = L.D.size ∧ (L.puts (pieces 0 rec)).1.D.loose.length ≤ L.D.loose.length + 2 * cnt rec.length := by
  have hl := pieces_length 0 rec
  have hc : cnt rec.length ≤ 84 := by unfold cnt; omega
  obtain ⟨a1, a2, a3⟩ := puts_free (pieces 0 rec) L hf
  obtain ⟨b1, b2, b3, b4⟩ := puts_ok P (pieces 0 rec) L hk hP (by rw [hl]; exact hroom) (by rw [hl]; omega)
  rw [hl] at b2 b4
  refine ⟨?_, b1, b4 a1, a2, a3.trans hz, b3, b2⟩
  unfold Lg.app
  rw [if_neg (by omega), if_neg (by rw [hz]; decide), if_neg (by omega), if_pos a1]

theorem ls_new {D : Dk} (hd : D.down = false) (hf : -1 ≤ D.fuse ∧ D.fuse ≤ 1000000) (hl : D.loose.length ≤ 90000) (hs : D.size ≤ 100000) (ep nx : Nat) (he : ep < 4294967296) (hn : (nx : Int) ≤ D.size) (fz : Bool) : (⟨D, ep, nx, fz⟩ : Lg).ok := ⟨hd, hf, hl, he, hn, hs⟩

/-- A new disk, scanned or not. -/
structure Dk.fresh (D : Dk) (n : Nat) : Prop where
  size : D.size = n
  down : D.down = false
  fuse : D.fuse = -1
  loose : D.loose = []
  pgs : ∀ i, D.pgs i = none
  sure : ∀ i, D.sure i = zero64
theorem Dk.fresh.new (n : Nat) : (Dk.new n).fresh n := ⟨rfl, rfl, rfl, rfl, new_pgs n, fun _ => rfl⟩
theorem Dk.fresh.like {E D : Dk} {n : Nat} (h : D.fresh n) (k : E.like D) : E.fresh n := ⟨k.size.trans h.size, k.down.trans h.down, k.fuse.trans h.fuse, k.loose.trans h.loose, fun i => by rw [k.pgs]; exact h.pgs i, fun i => by rw [k.sure]; exact h.sure i⟩

section
variable {w W : World} {d m1 m2 : Nat} {D : Dk} {l : List Nat}
theorem fresh_new (n : Nat) (h1 : 1 ≤ n) (h2 : n ≤ 1024) (hb : Below w.heap.size w W) :
    Calls Try.prog 53 #[.int .i64 n] W fun r w' => ∃ d m1 m2 D, r = .returned (.tuple #[.pointer (some ⟨d, 0, none⟩), .int .i64 0]) ∧ D.fresh n ∧ DS w w' d m1 m2 D [] := by
  refine (ds_new (n : Int) (by omega) (by omega) hb).mono ?_
  rintro r w' ⟨d, m1, m2, rfl, h⟩
  exact ⟨d, m1, m2, _, rfl, Dk.fresh.new n, h⟩
theorem fresh_scan (h : DS w W d m1 m2 D l) (n : Nat) (hf : D.fresh n) (h32 : 32 ≤ n) (h2 : n ≤ 1024) :
    Calls Try.prog 77 #[.pointer (some ⟨d, 0, none⟩)] W fun r w' => ∃ (a : Option Addr) (c : Nat) (E : Dk), r = .returned (.tuple #[.slice a 0 c, .int .i64 0, .int .u32 0, .int .i64 0]) ∧ E.fresh n ∧ DS w w' d m1 m2 E l := by
  refine (ds_scan h hf.down n hf.size h32 h2 (by rw [hf.loose]; exact Nat.zero_le _) (n / 16 * 16) rfl).mono ?_
  rintro r w' ⟨rv, E, rfl, hE, hS, _, hrow⟩
  rw [(stepTo_none _ hf.pgs _ _).1, (stepTo_none _ hf.pgs _ _).2, mostTo_none _ hf.pgs] at *
  obtain ⟨a, c, rfl⟩ := ownsRow_form hrow
  exact ⟨a, c, E, rfl, hf.like hE, hS.less (fun k hk => List.mem_append_right _ hk)⟩
theorem fresh_open (h : DS w W d m1 m2 D l) (n : Nat) (hf : D.fresh n) (h32 : 32 ≤ n) (h2 : n ≤ 1024) :
    Calls Try.prog 74 #[.pointer (some ⟨d, 0, none⟩)] W fun r w' => ∃ (a : Option Addr) (c g : Nat) (E : Dk), r = .returned (.tuple #[.pointer (some ⟨g, 0, none⟩), .slice a 0 c, .int .i64 0]) ∧ E.fresh n ∧ LS w w' g d m1 m2 ⟨E, 1, 0, false⟩ l (fun k => w'.heap[k]?) ∧ Stays W w' l := by
  refine (ds_open h hf.down n hf.size h32 h2 (by rw [hf.loose]; exact Nat.zero_le _) (n / 16 * 16) rfl (by rw [mostTo_none _ hf.pgs]; decide)).mono ?_
  rintro r w' ⟨rv, g, E, rfl, hE, hS, hst, hrow⟩
  rw [(stepTo_none _ hf.pgs _ _).1] at hrow
  rw [(stepTo_none _ hf.pgs _ _).2, mostTo_none _ hf.pgs] at hS
  obtain ⟨a, c, rfl⟩ := ownsRow_form hrow
  refine ⟨a, c, g, E, rfl, hf.like hE, ⟨hS.ds.less (fun k hk => ?_), hS.lg, fun _ _ => rfl, fun hm => hS.ng (List.mem_append_right _ hm)⟩, hst⟩
  rcases List.mem_cons.1 hk with rfl | hk
  · exact .head _
  · exact .tail _ (List.mem_append_right _ hk)
end

theorem fresh_ok {E : Dk} {n : Nat} (h : E.fresh n) (hn : n ≤ 1024) : (⟨E, 1, 0, false⟩ : Lg).ok :=
  ⟨h.down, by show -1 ≤ E.fuse ∧ E.fuse ≤ 1000000; rw [h.fuse]; decide, by show E.loose.length ≤ 90000; rw [h.loose]; exact Nat.zero_le _, by show (1 : Nat) < 4294967296; decide, by show ((0 : Nat) : Int) ≤ E.size; rw [h.size]; omega, by show E.size ≤ 100000; rw [h.size]; omega⟩

set_option maxRecDepth 100000 in
set_option maxHeartbeats 4000000 in
theorem awake19 (w : World) : Calls Try.prog 72 #[] w fun r w' => r = .returned (.bool true) ∧ Below w.heap.size w w' := by
  have N := Lib.hid (fun W (hb : Below w.heap.size w W) => fresh_new 32 (by decide) (by decide) hb)
  go_enter Try.func72, Try.ntmps72
  go_wp2_with fail
  refine (N.out _ (Below.refl _ _)).mono ?_
  rintro r w1 ⟨d, m1, m2, D, rfl, hD, hS⟩
  have S := Lib.hid (fresh_scan hS 32 hD (by decide) (by decide))
  clear hS N hD
  go_wp2_with fail
  refine S.out.mono ?_
  rintro r w2 ⟨ra, rc, E, rfl, hE, hS⟩
  have O := Lib.hid (fresh_open hS 32 hE (by decide) (by decide))
  clear hS S hE
  go_wp2_with fail
  refine O.out.mono ?_
  rintro r w3 ⟨ra2, rc2, g, E2, rfl, hE, hL, -⟩
  have hk := fresh_ok hE (by decide)
  have e : (⟨#[104, 101, 108, 108, 111]⟩ : ByteArray).data.toList = [104, 101, 108, 108, 111] := rfl
  have A := append_any hL hk 32 hE.size 32 rfl (by show 0 ≤ 32; decide) (by show E2.loose.length ≤ 70000; rw [hE.loose]; decide) ⟨#[104, 101, 108, 108, 111]⟩ (by decide)
  obtain ⟨a1, a2, a3, -⟩ := app_free _ hk 32 (by show (32 : Int) ≤ E2.size; rw [hE.size]; decide) [104, 101, 108, 108, 111] (by decide) (by decide) hE.fuse rfl (by show 0 + layLen 0 1 ≤ 32; decide) (by show E2.loose.length ≤ 70000; rw [hE.loose]; decide)
  rw [e, a1] at A
  have hnx : (Lg.puts ⟨E2, 1, 0, false⟩ (pieces 0 [104, 101, 108, 108, 111])).1.nx = 2 := a3
  generalize (Lg.puts ⟨E2, 1, 0, false⟩ (pieces 0 [104, 101, 108, 108, 111])).1 = L1 at *
  have A := Lib.hid A
  have HNX := Lib.hid hnx
  clear a1 a2 a3 e hk hL O hnx hE
  go_wp2_with fail
  refine A.out.mono ?_
  rintro r w4 ⟨rfl, hL⟩
  have HL := Lib.hid hL
  have NX := Lib.hid (next_any hL.lg)
  rw [HNX.out] at NX
  clear hL A
  go_wp2_with fail
  refine NX.out.mono ?_
  rintro r w5 ⟨rfl, rfl⟩
  go_wp2_with fail
  go_ret
  exact ⟨rfl, HL.out.ds.below⟩
end Go.Proofs.Ytmaaljfcnnlnpaa
