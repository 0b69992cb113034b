/-
  The walk of a log's Scan.
-/
import Derived.Test.YtmaaljfcnnlnpaaSegWalk3
namespace Go.Proofs.Ytmaaljfcnnlnpaa
open Go.RowKit

theorem one_any {W : World} {b : Nat} {s : Sc} {m : Nat} {rv : Value} (h : ScAt W b s m rv) (hrc : s.recs.length ≤ 100000) (i : Nat) (hi : i ≤ 100000) (bs : List UInt8) (hl : bs.length = 64) :
    Calls Try.prog 99 #[.pointer (some ⟨b, 0, none⟩), .int .i64 i, .agg (bs.map bv).toArray] W fun r w' => r = .returned (.tuple #[]) ∧ OneR W w' b (s.one i (rdO bs)) (mostUp m (rdO bs)) := by
  have bad : ∀ e : Nat, e ≠ 0 → readB bs = (noPg, e) → Calls Try.prog 99 #[.pointer (some ⟨b, 0, none⟩), .int .i64 i, .agg (bs.map bv).toArray] W fun r w' => r = .returned (.tuple #[]) ∧ OneR W w' b (s.one i (rdO bs)) (mostUp m (rdO bs)) := fun e he hr => by
    have hn : rdO bs = none := by unfold rdO; rw [hr, if_neg he]
    rw [hn]
    refine (one_bad h i bs hl noPg e (by omega) (fun W => read_val bs hl _ _ hr W)).mono ?_
    rintro r w' ⟨rfl, k1, k2⟩
    exact ⟨rfl, rv, k1, k2⟩
  by_cases hs : Summed bs
  · rcases read_cases bs hs with hr | ⟨hr, hright, _⟩
    · exact bad 4 (by decide) hr
    · have hn : rdO bs = some (parse bs) := by unfold rdO; rw [hr, if_pos rfl]
      rw [hn]
      have hp := parse_lt bs
      exact one_good h hrc i hi bs hl (parse bs) hp.2.1 hp.2.2.1 (fun W => read_val bs hl _ _ hr W)
  · exact bad 3 (by decide) (read_3 bs hs)

set_option maxHeartbeats 1000000 in
theorem segpages_any {W : World} {d m1 m2 : Nat} {v : Value} {D : Dk} (h : DkAt W d m1 m2 v D) (N : Nat) (hN : D.size = N) (hN2 : N ≤ 100000) :
    Calls Try.prog 97 #[.pointer (some ⟨d, 0, none⟩)] W fun r w' => r = .returned (.int .i64 (N / 16 * 16 : Nat)) ∧ W = w' := by
  have S := Lib.hid (size_any h)
  rw [hN] at S
  clear h
  have e := Lib.hid (show (N : Int) / 16 * 16 = ((N / 16 * 16 : Nat) : Int) by omega)
  go_enter Try.func97, Try.ntmps97
  go_wp2_with fail
  refine S.out.mono ?_
  rintro r w1 ⟨rfl, rfl⟩
  go_wp2_with fail
  go_ret
  exact ⟨by rw [← e.out]; rfl, rfl⟩

/-- The scan of so many sectors. -/
def stepTo (c : Nat → Option Pg) (P : Nat) : Nat → Sc
  | 0 => Sc.zero
  | i + 1 => { (stepTo c P i).one i (c i) with br := ((stepTo c P i).one i (c i)).br || decide (P ≤ i + 1) }
def mostTo (c : Nat → Option Pg) : Nat → Nat
  | 0 => 0
  | i + 1 => mostUp (mostTo c i) (c i)

theorem one_recs1 (s : Sc) (i : Nat) (r : Option Pg) : (s.one i r).recs.length ≤ s.recs.length + 1 := by
  cases r with
  | none => exact Nat.le_succ _
  | some p =>
    show (if s.br = false ∧ s.stands i p = true then s.took i p else { s with br := true }).recs.length ≤ s.recs.length + 1
    split
    · unfold Sc.took
      split
      · simp only
        split
        · simp
        · simp
      · simp
    · simp
theorem stepTo_recs (c : Nat → Option Pg) (P : Nat) : ∀ k, (stepTo c P k).recs.length ≤ k
  | 0 => Nat.le_refl _
  | k + 1 => by
    have h1 := stepTo_recs c P k
    have h2 := one_recs1 (stepTo c P k) k (c k)
    show ((stepTo c P k).one k (c k)).recs.length ≤ k + 1
    omega

/-- The scan as the chain tells it. -/
theorem stepTo_go (c : Nat → Option Pg) (P : Nat) : ∀ k, k < P → stepTo c P k = go c Sc.zero 0 k
  | 0, _ => rfl
  | k + 1, h => by
    have ih := stepTo_go c P k (by omega)
    show ({ (stepTo c P k).one k (c k) with br := ((stepTo c P k).one k (c k)).br || decide (P ≤ k + 1) } : Sc) = (go c Sc.zero 0 k).one (0 + k) (c (0 + k))
    rw [ih, Nat.zero_add, decide_eq_false (by omega), Bool.or_false]
theorem stepTo_end (c : Nat → Option Pg) (P : Nat) (hP : 0 < P) : (stepTo c P P).recs = (go c Sc.zero 0 P).recs ∧ (stepTo c P P).next = (go c Sc.zero 0 P).next := by
  obtain ⟨k, rfl⟩ : ∃ k, P = k + 1 := ⟨P - 1, by omega⟩
  have ih := stepTo_go c (k + 1) k (by omega)
  show ((stepTo c (k + 1) k).one k (c k)).recs = ((go c Sc.zero 0 k).one (0 + k) (c (0 + k))).recs ∧ ((stepTo c (k + 1) k).one k (c k)).next = ((go c Sc.zero 0 k).one (0 + k) (c (0 + k))).next
  rw [ih, Nat.zero_add]
  exact ⟨rfl, rfl⟩

/-- The pages of a disk, as they are read. -/
def Dk.pgs (D : Dk) (i : Nat) : Option Pg := rdO (D.seen (i : Int))

/-- Scan's loop. -/
structure SL (W X : World) (d m1 m2 : Nat) (v : Value) (D : Dk) (b : Nat) (s : Sc) (m : Nat) : Prop where
  dk : ∃ rd, DkAt X d m1 m2 v { D with reads := rd }
  fr : DFr W X d m1 m2 v v
  sc : ∃ rv, ScAt X b s m rv
  ge : W.heap.size ≤ b

theorem ScAt.dfr {X Y : World} {b d m1 m2 : Nat} {v : Value} {s : Sc} {m : Nat} {rv : Value} (h : ScAt X b s m rv) (hd : d < b) (h1 : m1 < b) (h2 : m2 < b) (hv : ∀ g, v.ownBlock = some g → g < b) (hf : DFr X Y d m1 m2 v v) : ScAt Y b s m rv := by
  have k : ∀ g, g < X.heap.size → b ≤ g → Y.heap[g]? = X.heap[g]? := fun g hg hb => hf.block g hg (by omega) (by omega) (by omega) (fun e => by have := hv g e; omega)
  have e := k b h.lt (Nat.le_refl _)
  have c : ∀ i, Y.cell? ⟨b, i, none⟩ = X.cell? ⟨b, i, none⟩ := fun i => World.cell?_of_block (a := ⟨b, i, none⟩) e
  exact ⟨h.jn' (fun i _ => c i), (c _).trans h.c3, (c _).trans h.c4, (c _).trans h.c5, (c _).trans h.c6, (c _).trans h.c7, (c _).trans h.c8, fun i => (World.frozen?_of_block (a := ⟨b, i, none⟩) e).trans (h.fz i),
    ownsRow_of_block h.row (fun g hg => by have := ownsRow_ge h.row hg; exact k g this.2 (by omega)), Nat.lt_of_lt_of_le h.lt hf.size, h.le⟩

section
variable {W X : World} {d m1 m2 : Nat} {v : Value} {D : Dk} {b : Nat} {s : Sc} {m : Nat}
theorem SL.blocks (h : SL W X d m1 m2 v D b s m) (h0 : DkAt W d m1 m2 v D) : d < b ∧ m1 < b ∧ m2 < b ∧ ∀ g, v.ownBlock = some g → g < b := by
  have o1 := h0.o1
  have o2 := h0.o2
  have lt := h0.lt
  have ge := h.ge
  refine ⟨by omega, by omega, by omega, fun g hg => ?_⟩
  have := (ownsRow_ge h0.row hg).2
  omega
theorem SL.step {Y : World} (h : SL W X d m1 m2 v D b s m) (hb : Below X.heap.size X Y) : SL W Y d m1 m2 v D b s m :=
  ⟨h.dk.elim fun rd h => ⟨rd, h.below hb⟩, h.fr.trans (DFr.of_below hb _ _ _ _), h.sc.elim fun rv h => ⟨rv, h.below hb⟩, h.ge⟩
theorem SL.disk {Y : World} (h : SL W X d m1 m2 v D b s m) (h0 : DkAt W d m1 m2 v D) {rd : Int → Int} (hd : DkAt Y d m1 m2 v { D with reads := rd }) (hf : DFr X Y d m1 m2 v v) : SL W Y d m1 m2 v D b s m := by
  obtain ⟨a1, a2, a3, a4⟩ := h.blocks h0
  exact ⟨⟨rd, hd⟩, h.fr.trans hf, h.sc.elim fun rv h => ⟨rv, h.dfr a1 a2 a3 a4 hf⟩, h.ge⟩
/-- The scan's own block turned. -/
theorem SL.scan {Y : World} (h : SL W X d m1 m2 v D b s m) (h0 : DkAt W d m1 m2 v D) {s' : Sc} {m' : Nat} {rv : Value} (hs : ScAt Y b s' m' rv) (hb : Below b X Y) : SL W Y d m1 m2 v D b s' m' := by
  obtain ⟨a1, a2, a3, a4⟩ := h.blocks h0
  obtain ⟨rd, hd⟩ := h.dk
  have f := h.fr
  have ge := h.ge
  refine ⟨⟨rd, hd.of_blocks hb.size (hb.block d a1) (hb.block m1 a2) (hb.block m2 a3) (fun g hg => hb.block g (a4 g hg))⟩, ?_, ⟨rv, hs⟩, h.ge⟩
  exact ⟨hb.os.trans f.os, hb.tape.trans f.tape, hb.output.trans f.output, Nat.le_trans f.size hb.size, fun k hk b1 b2 b3 b4 => (hb.block k (by omega)).trans (f.block k hk b1 b2 b3 b4), fun _ h => .inl h⟩
end

theorem SL.start {W : World} {d m1 m2 : Nat} {v : Value} {D : Dk} (h : DkAt W d m1 m2 v D) :
    SL W (W.alloc (.cells #[.bool false, .int .u32 0, .string ⟨#[]⟩, .slice none 0 0, .int .i64 0, .int .i64 0, .int .u32 0, .int .u32 0, .bool false] 157)) d m1 m2 v D W.heap.size Sc.zero 0 := by
  have hb : Below W.heap.size W (W.alloc (.cells #[.bool false, .int .u32 0, .string ⟨#[]⟩, .slice none 0 0, .int .i64 0, .int .i64 0, .int .u32 0, .int .u32 0, .bool false] 157)) := (Below.refl _ _).alloc (Nat.le_refl _) _
  refine ⟨⟨D.reads, h.below hb⟩, DFr.of_below hb _ _ _ _, ⟨.slice none 0 0, ⟨⟨?_, ?_, ?_⟩, ?_, ?_, ?_, ?_, ?_, ?_, fun i => World.frozen?_alloc_new _ _ _ _, World.ownsRow_nil _ _ _ _, by simp, Nat.zero_le _⟩⟩, Nat.le_refl _⟩
  all_goals
    rw [World.cell?_alloc_new]
    rfl

/-- What Scan answers. -/
structure ScR (W X : World) (d m1 m2 : Nat) (v : Value) (D : Dk) (P N : Nat) (rv : Value) : Prop where
  dk : ∃ rd, DkAt X d m1 m2 v { D with reads := rd }
  fr : DFr W X d m1 m2 v v
  row : X.ownsRow W.heap.size 160 2 rv (stepTo D.pgs (P) N).recs.length (recCells (stepTo D.pgs (P) N).recs)

theorem dread_seen {X : World} {d m1 m2 : Nat} {v : Value} {D : Dk} {rd : Int → Int} (hX : DkAt X d m1 m2 v { D with reads := rd }) (hdn : D.down = false) (N : Nat) (hN : D.size = N) (hlen : D.loose.length ≤ 100000) (k : Nat) (hk : k < N) :
    Calls Try.prog 57 #[.pointer (some ⟨d, 0, none⟩), .int .i64 k] X fun r w' => r = .returned (.tuple #[.agg ((D.seen (k : Int)).map bv).toArray, .int .i64 0]) ∧ (∃ rd', DkAt w' d m1 m2 v { D with reads := rd' }) ∧ DFr X w' d m1 m2 v v := by
  refine (dread_yes hX (k : Int) (by show (if D.down = true then 7 else if (k : Int) < 0 ∨ D.size ≤ k then 1 else 0) = 0; rw [if_neg (by rw [hdn]; decide), if_neg (by rw [hN]; omega)]) (by unfold maxLen; show D.loose.length ≤ _; omega)).mono ?_
  rintro r w' ⟨rfl, hd, hf⟩
  exact ⟨rfl, ⟨_, hd⟩, hf⟩

set_option maxRecDepth 100000 in
set_option maxHeartbeats 4000000 in
theorem scan_any {W : World} {d m1 m2 : Nat} {v : Value} {D : Dk} (h : DkAt W d m1 m2 v D) (hdn : D.down = false) (N : Nat) (hN : D.size = N) (h32 : 32 ≤ N) (hN2 : N ≤ 1024) (hlen : D.loose.length ≤ 100000) (P : Nat) (hP : N / 16 * 16 = P) :
    Calls Try.prog 77 #[.pointer (some ⟨d, 0, none⟩)] W fun r w' => ∃ rv, r = .returned (.tuple #[rv, .int .i64 (stepTo D.pgs (P) N).next, .int .u32 (mostTo D.pgs N), .int .i64 0]) ∧ ScR W w' d m1 m2 v D P N rv := by
  have S := Lib.hid (size_any h)
  rw [hN] at S
  have H0 := Lib.hid h
  have R := Lib.hid (fun X rd (hX : DkAt X d m1 m2 v { D with reads := rd }) (k : Nat) (hk : k < N) => dread_seen hX hdn N hN hlen k hk)
  have PG := Lib.hid (fun X rd (hX : DkAt X d m1 m2 v { D with reads := rd }) => segpages_any hX N hN (by omega))
  rw [hP] at PG
  have hP1 : 32 ≤ P := by omega
  have hP2 : P ≤ N := by omega
  clear hP
  have SR := Lib.hid (fun k => stepTo_recs D.pgs (P) k)
  clear h
  go_enter Try.func77, Try.ntmps77
  go_wp2_with fail
  refine S.out.mono ?_
  rintro r w1 ⟨rfl, rfl⟩
  go_wp2_with fail
  refine calls_gate (fun X => SL W X d m1 m2 v D W.heap.size Sc.zero 0) (SL.start H0.out) ?_
  intro w2 hS
  have HS := Lib.hid hS
  clear hS
  generalize hbg : W.heap.size = b at *
  have HBG := Lib.hid hbg
  clear hbg
  obtain ⟨rd2, hd2⟩ := HS.out.dk
  have S2 := Lib.hid (size_any hd2)
  rw [show ({ D with reads := rd2 } : Dk).size = (N : Int) from hN] at S2
  clear hd2
  refine S2.out.mono ?_
  rintro r w3 ⟨rfl, rfl⟩
  clear S2 S
  go_wp2_with fail
  go_loopw [7, 8, 9, 17, 18, 19, 20, 21, 22, 23, 24, 25, 26, 27, 28, 29, 30, 31, 32, 33, 34, 35, 36, 37, 38, 39, 40, 41, 42, 43, 44, 45, 46, 47] (fun _ _ _ a17 _ _ _ _ _ _ _ _ _ _ _ _ _ _ _ _ _ _ _ _ _ _ _ _ _ _ _ _ _ _ wr => ∃ k : Nat, k ≤ N ∧ a17 = .int .i64 k ∧ SL W wr d m1 m2 v D b (stepTo D.pgs (P) k) (mostTo D.pgs k)) (fun _ _ _ a17 _ _ _ _ _ _ _ _ _ _ _ _ _ _ _ _ _ _ _ _ _ _ _ _ _ _ _ _ _ _ _ => N - (intOf a17).toNat)
  case atStart => exact ⟨0, by omega, rfl, HS.out⟩
  case round =>
    obtain ⟨k, hk, rfl, hL⟩ := hrel
    have HL := Lib.hid hL
    clear hL HS
    by_cases hlt : k < N
    · obtain ⟨rd, hd⟩ := HL.out.dk
      have R1 := Lib.hid (R.out _ rd hd k hlt)
      clear hd
      go_wp2_with fail
      refine R1.out.mono ?_
      rintro r w4 ⟨rfl, ⟨rd', hd⟩, hf⟩
      have HL := Lib.hid (HL.out.disk H0.out hd hf)
      have hbl : (D.seen (k : Int)).length = 64 := Dk.ok.seen (D := { D with reads := rd' }) hd.ok k
      have hpg := Lib.hid (show D.pgs k = rdO (D.seen (k : Int)) from rfl)
      generalize D.seen (k : Int) = bs at *
      have HBL := Lib.hid hbl
      clear hd hf R1 hbl
      go_upto_region 8 with (refine wpList_new56 (by rfl) _ _ (by rfl) _ _ rfl (by rfl) (by rfl) bs (by rfl) HBL.out ?_; intro w5 hbuf hw5 _; have HBF := Lib.hid hbuf; have HL := Lib.hid (HL.out.step hw5); clear hbuf hw5)
      generalize w4.heap.size = g at *
      obtain ⟨rv, hs⟩ := HL.out.sc
      have O := Lib.hid (one_any hs (Nat.le_trans (SR.out k) (by omega)) k (by omega) bs HBL.out)
      clear hs
      rw [← hpg.out] at O
      go_wp2_with (refine wpList_load56g _ (by rfl) (by rfl) g (by rfl) bs HBF.out ?_)
      refine O.out.mono ?_
      rintro r w6 ⟨rfl, rv', hs', hb'⟩
      have HL := Lib.hid (HL.out.scan H0.out hs' hb')
      clear O hs' hb' HBF
      obtain ⟨rv2, hs2⟩ := HL.out.sc
      have HS2 := Lib.hid hs2
      have c8 := hs2.c8
      have f8 := hs2.fz 8
      clear hs2
      obtain ⟨rd3, hd3⟩ := HL.out.dk
      have P3 := Lib.hid (PG.out _ rd3 hd3)
      clear hd3
      have hbrn := Lib.hid (show (stepTo D.pgs (P) (k + 1)) = { (stepTo D.pgs (P) k).one k (D.pgs k) with br := ((stepTo D.pgs (P) k).one k (D.pgs k)).br || decide (P ≤ k + 1) } from rfl)
      have hmon := Lib.hid (show mostTo D.pgs (k + 1) = mostUp (mostTo D.pgs k) (D.pgs k) from rfl)
      generalize (stepTo D.pgs (P) k).one k (D.pgs k) = s1 at *
      generalize mostUp (mostTo D.pgs k) (D.pgs k) = mo1 at *
      obtain ⟨br, hbr⟩ : ∃ x, s1.br = x := ⟨_, rfl⟩
      rw [hbr] at c8
      have HBR := Lib.hid hbr
      clear hbr
      cases br
      · go_wp2_with fail
        refine P3.out.mono ?_
        rintro r w7 ⟨rfl, rfl⟩
        by_cases hpk : P ≤ k + 1
        · have hpd : decide ((P : Int) - 1 ≤ (k : Int)) = true := by simp; omega
          go_wp2_with fail
          obtain ⟨k1, k2⟩ := HS2.out.setBr true
          exact ⟨⟨k + 1, by omega, by simp, by rw [hbrn.out, hmon.out, HBR.out, decide_eq_true hpk]; exact HL.out.scan H0.out k1 k2⟩, by simp only [intOf]; omega⟩
        · have hpd : decide ((P : Int) - 1 ≤ (k : Int)) = false := by simp; omega
          go_wp2_with fail
          obtain ⟨k1, k2⟩ := HS2.out.setBr false
          exact ⟨⟨k + 1, by omega, by simp, by rw [hbrn.out, hmon.out, HBR.out, decide_eq_false hpk]; exact HL.out.scan H0.out k1 k2⟩, by simp only [intOf]; omega⟩
      · go_wp2_with fail
        obtain ⟨k1, k2⟩ := HS2.out.setBr true
        exact ⟨⟨k + 1, by omega, by simp, by rw [hbrn.out, hmon.out, HBR.out]; exact HL.out.scan H0.out k1 k2⟩, by simp only [intOf]; omega⟩
    · have hke : k = N := by omega
      obtain ⟨rv, hs⟩ := HL.out.sc
      have HRW := Lib.hid hs.row
      have c3 := hs.c3
      have c5 := hs.c5
      have c7 := hs.c7
      have HKE := Lib.hid hke
      rw [hke] at c5 c7 HRW HL
      clear hs
      have hltb : decide ((k : Int) < (N : Int)) = false := by simp; omega
      clear hke
      go_wp2_with fail
      go_quiet (fail)
      go_wp2_with fail
      have HL := Lib.hid (HL.out.step ((Below.refl _ _).drewN nq))
      refine bodyPost_ret (v := .tuple #[rv, .int .i64 (stepTo D.pgs P N).next, .int .u32 (mostTo D.pgs N), .int .i64 0]) (by simp [results, Try.results77, go_sem]) rfl ⟨rv, rfl, HL.out.dk, HL.out.fr, ?_⟩
      rw [HBG.out]
      exact ownsRow_mono (ownsRow_of_block HRW.out (fun g hg => rfl)) (by omega)
end Go.Proofs.Ytmaaljfcnnlnpaa
