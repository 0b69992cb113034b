/-
  The walk of a scan's step.
-/
import Derived.Test.YtmaaljfcnnlnpaaSegWalk2
import Derived.Test.YtmaaljfcnnlnpaaFragLaw2
namespace Go.Proofs.Ytmaaljfcnnlnpaa
open Go.RowKit

/-- What a step leaves. -/
def OneR (W w' : World) (b : Nat) (s : Sc) (m : Nat) : Prop := ∃ rv', ScAt w' b s m rv' ∧ Below b W w'
/-- What is read of a sector. -/
def rdO (bs : List UInt8) : Option Pg := if (readB bs).2 = 0 then some (readB bs).1 else none
/-- The greatest epoch. -/
def mostUp (m : Nat) : Option Pg → Nat
  | none => m
  | some p => max m p.ep

/-- A scan and a page in memory. -/
structure SX (w W : World) (b g : Nat) (s : Sc) (m : Nat) (rv : Value) (p : Pg) : Prop where
  below : Below b w W
  sc : ScAt W b s m rv
  pg : PgAt W g 0 p
  lt : g < W.heap.size
  ge : w.heap.size ≤ g
theorem SX.step {w W W' : World} {b g : Nat} {s : Sc} {m : Nat} {rv : Value} {p : Pg} (h : SX w W b g s m rv p) (hb : Below W.heap.size W W') : SX w W' b g s m rv p :=
  ⟨h.below.trans (hb.mono (Nat.le_of_lt h.sc.lt)), h.sc.below hb, h.pg.below hb h.lt, Nat.lt_of_lt_of_le h.lt hb.size, h.ge⟩

theorem SX.start {W w1 : World} {b : Nat} {s : Sc} {m : Nat} {rv : Value} {q : Pg} {c : Array Value} {t t2 : TypeId} (h : ScAt W b s m rv) (hb : Below (W.alloc (.cells c t)).heap.size (W.alloc (.cells c t)) w1) :
    SX W (w1.alloc (.cells #[.int .u32 q.ep, .int .u32 q.nu, .int .i64 q.ki, .bool q.fi, .bool q.la, .string ⟨q.da.toArray⟩] t2)) b w1.heap.size s m rv q := by
  have h1 : Below W.heap.size W w1 := ((Below.refl _ _).alloc (Nat.le_refl _) _).trans (hb.mono (by simp))
  have h2 := PX.boxed w1 q t2 0
  have h3 : Below W.heap.size W (w1.alloc (.cells #[.int .u32 q.ep, .int .u32 q.nu, .int .i64 q.ki, .bool q.fi, .bool q.la, .string ⟨q.da.toArray⟩] t2)) := h1.trans (h2.below.mono h1.size)
  exact ⟨h3.mono (Nat.le_of_lt h.lt), h.below h3, h2.pg, h2.lt, h1.size⟩

set_option maxRecDepth 100000 in
set_option maxHeartbeats 2000000 in
theorem one_bad {W : World} {b : Nat} {s : Sc} {m : Nat} {rv : Value} (h : ScAt W b s m rv) (i : Nat) (bs : List UInt8) (hl : bs.length = 64) (q : Pg) (e : Int) (he : e ≠ 0)
    (R : ∀ W, Calls Try.prog 44 #[.agg (bs.map bv).toArray] W fun r w' => r = .returned (.tuple #[.agg #[.int .u32 q.ep, .int .u32 q.nu, .int .i64 q.ki, .bool q.fi, .bool q.la, .string ⟨q.da.toArray⟩], .int .i64 e]) ∧ Below W.heap.size W w') :
    Calls Try.prog 99 #[.pointer (some ⟨b, 0, none⟩), .int .i64 i, .agg (bs.map bv).toArray] W fun r w' => r = .returned (.tuple #[]) ∧ ScAt w' b { s with br := true } m rv ∧ Below b W w' := by
  have HB : Hid (∀ c t, c = (bs.map bv).toArray → Buf (W.alloc (.cells c t)) W.heap.size bs) := Lib.hid (fun c t hc => Buf.new W bs c t hc hl)
  have R := Lib.hid R
  have HS := Lib.hid h
  clear h
  have hE := Lib.hid (show (e == 0) = false by simp [he])
  go_enter Try.func99, Try.ntmps99
  go_wp2_with (refine wpList_load56g _ (by rfl) (by rfl) _ (by rfl) bs (HB.out _ _ (by rfl)) ?_)
  refine (R.out _).mono ?_
  rintro r w1 ⟨rfl, hb1⟩
  go_upto_region 2 with fail
  refine wp_gate (fun X => SX W X b w1.heap.size s m rv q) (SX.start HS.out hb1) ?_
  intro w2 hX
  generalize w1.heap.size = g at *
  have HX := Lib.hid hX
  have c8 := hX.sc.c8
  have f8 := hX.sc.fz 8
  clear hX hb1 HB R
  have he1 := hE.out
  have he2 : (e != 0) = true := by simpa using he
  obtain ⟨br, hbr⟩ : ∃ br, s.br = br := ⟨_, rfl⟩
  rw [hbr] at c8
  clear hbr
  cases br
  all_goals
    go_wp2_with fail
    obtain ⟨k1, k2⟩ := HX.out.sc.setBr true
    exact bodyPost_ret (results_none rfl _ _ _) rfl ⟨rfl, k1, HX.out.below.trans k2⟩

theorem PgAt.off {W : World} {g b o : Nat} {p : Pg} (h : PgAt W g o p) (hne : g ≠ b) (j : Nat) (u : Value) : PgAt (W.setCell ⟨b, j, none⟩ u) g o p := by
  have e : (W.setCell ⟨b, j, none⟩ u).heap[g]? = W.heap[g]? := Below.heap_setCell W ⟨b, j, none⟩ u g hne
  exact ⟨(World.cell?_of_block (a := ⟨g, o, none⟩) e).trans h.c0, (World.cell?_of_block (a := ⟨g, o + 1, none⟩) e).trans h.c1, (World.cell?_of_block (a := ⟨g, o + 2, none⟩) e).trans h.c2,
    (World.cell?_of_block (a := ⟨g, o + 3, none⟩) e).trans h.c3, (World.cell?_of_block (a := ⟨g, o + 4, none⟩) e).trans h.c4, (World.cell?_of_block (a := ⟨g, o + 5, none⟩) e).trans h.c5⟩

section
variable {w W : World} {b g : Nat} {s : Sc} {m : Nat} {rv : Value} {p : Pg}
theorem SX.most (h : SX w W b g s m rv p) (hlt : b < w.heap.size) (x : Nat) : SX w (W.setCell ⟨b, 7, none⟩ (.int .u32 (x : Int))) b g s x rv p := by
  obtain ⟨k1, k2⟩ := h.sc.setMost x
  exact ⟨h.below.trans k2, k1, h.pg.off (by have := h.ge; omega) _ _, by rw [setCell_size]; exact h.lt, h.ge⟩
theorem SX.at_ (h : SX w W b g s m rv p) (hlt : b < w.heap.size) (x : Nat) : SX w (W.setCell ⟨b, 4, none⟩ (.int .i64 (x : Int))) b g { s with at_ := x } m rv p := by
  obtain ⟨k1, k2⟩ := h.sc.setAt x
  exact ⟨h.below.trans k2, k1, h.pg.off (by have := h.ge; omega) _ _, by rw [setCell_size]; exact h.lt, h.ge⟩
theorem SX.ep (h : SX w W b g s m rv p) (hlt : b < w.heap.size) (x : Nat) : SX w (W.setCell ⟨b, 6, none⟩ (.int .u32 (x : Int))) b g { s with ep := x } m rv p := by
  obtain ⟨k1, k2⟩ := h.sc.setEp x
  exact ⟨h.below.trans k2, k1, h.pg.off (by have := h.ge; omega) _ _, by rw [setCell_size]; exact h.lt, h.ge⟩
theorem SX.next (h : SX w W b g s m rv p) (hlt : b < w.heap.size) (x : Nat) : SX w (W.setCell ⟨b, 5, none⟩ (.int .i64 (x : Int))) b g { s with next := x } m rv p := by
  obtain ⟨k1, k2⟩ := h.sc.setNext x
  exact ⟨h.below.trans k2, k1, h.pg.off (by have := h.ge; omega) _ _, by rw [setCell_size]; exact h.lt, h.ge⟩
theorem SX.broke (h : SX w W b g s m rv p) (hlt : b < w.heap.size) (x : Bool) : SX w (W.setCell ⟨b, 8, none⟩ (.bool x)) b g { s with br := x } m rv p := by
  obtain ⟨k1, k2⟩ := h.sc.setBr x
  exact ⟨h.below.trans k2, k1, h.pg.off (by have := h.ge; omega) _ _, by rw [setCell_size]; exact h.lt, h.ge⟩
theorem SX.drew (h : SX w W b g s m rv p) : SX w W.drew b g s m rv p := h.step (Below.refl _ _).drew
theorem SX.took {W' : World} (h : SX w W b g s m rv p) (hlt : b < w.heap.size) {j : Jn} (hj : JnAt W' b 0 j) (ht : Tk W W' b 0) (hl : j.rc.length ≤ 4096) : SX w W' b g { s with jn := j } m rv p := by
  obtain ⟨k1, k2⟩ := h.sc.took hj ht hl
  exact ⟨h.below.trans k2, k1, h.pg.took ht h.lt (by have := h.ge; omega), Nat.lt_of_lt_of_le h.lt ht.size, h.ge⟩
/-- A record appended to the row. -/
theorem SX.appended {w9 X : World} {g2 cap : Nat} (h : SX w W b g s m rv p) (x : Nat × List UInt8) (hX : Below W.heap.size W X) (hg : X.grownBy w9 rv.ownBlock)
    (ho : w9.ownsRow (b + 1) 160 2 (.slice (some ⟨g2, 0, none⟩) (s.recs.length + 1) cap) (s.recs.length + 1) (recCells s.recs ++ [.int .i64 (x.1 : Int), .string ⟨x.2.toArray⟩])) :
    w9.cell? ⟨b, 3, none⟩ = some rv ∧ w9.frozen? ⟨b, 3, none⟩ = false ∧ ScAt (w9.setCell ⟨b, 3, none⟩ (.slice (some ⟨g2, 0, none⟩) (s.recs.length + 1) cap)) b { s with recs := s.recs ++ [x] } m (.slice (some ⟨g2, 0, none⟩) (s.recs.length + 1) cap) ∧
      Below b w (w9.setCell ⟨b, 3, none⟩ (.slice (some ⟨g2, 0, none⟩) (s.recs.length + 1) cap)) ∧ w9.cell? ⟨b, 4, none⟩ = some (.int .i64 (s.at_ : Int)) := by
  have hsc := h.sc
  have nd : rv.ownBlock ≠ some b := fun e => by have := (ownsRow_ge hsc.row e).1; omega
  have hb : w9.heap[b]? = W.heap[b]? := (hg.block b (Nat.lt_of_lt_of_le hsc.lt hX.size) (fun e => nd e.symm)).trans (hX.block b hsc.lt)
  obtain ⟨k1, k2⟩ := hsc.appended hX hg (s.recs ++ [x]) (by rw [List.length_append, recCells_snoc]; exact ho)
  exact ⟨(World.cell?_of_block (a := ⟨b, 3, none⟩) hb).trans hsc.c3, (World.frozen?_of_block (a := ⟨b, 3, none⟩) hb).trans (hsc.fz 3), k1, h.below.trans k2, (World.cell?_of_block (a := ⟨b, 4, none⟩) hb).trans hsc.c4⟩
end

/-- What a joiner bears stays small. -/
theorem take_len (j : Jn) (p : Pg) (h : j.rc.length ≤ 4096) : (j.take p).1.rc.length ≤ 4096 := by
  unfold Jn.take
  split
  · split
    · split
      · rename_i hf
        split
        · exact Nat.zero_le _
        · unfold Jn.fits at hf
          simp only [Bool.and_eq_true, decide_eq_true_eq] at hf
          show (j.rc ++ p.da).length ≤ 4096
          rw [List.length_append]; omega
      · exact Nat.zero_le _
    · exact h
  · exact h

theorem scAt_eq {W : World} {b : Nat} {s s' : Sc} {m : Nat} {rv : Value} (h : ScAt W b s m rv) (e : s' = s) : ScAt W b s' m rv := e ▸ h
theorem took_err (s : Sc) (i : Nat) (q : Pg) (he : (s.jn.take q).2.2.2 ≠ 0) : s.took i q = { s with jn := (s.jn.take q).1, at_ := s.atOf i q, next := if s.jn.be then s.atOf i q else s.next, br := true } := by
  unfold Sc.took
  rw [if_neg he]
theorem took_ok (s : Sc) (i : Nat) (q : Pg) (he : (s.jn.take q).2.2.2 = 0) :
    s.took i q = { jn := (s.jn.take q).1, recs := if (s.jn.take q).2.2.1 then s.recs ++ [(s.atOf i q, (s.jn.take q).2.1)] else s.recs, at_ := s.atOf i q, next := if (s.jn.take q).1.be then s.atOf i q else i + 1, ep := q.ep, br := false } := by
  unfold Sc.took
  rw [if_pos he]

set_option maxRecDepth 100000 in
set_option maxHeartbeats 4000000 in
theorem one_good {W : World} {b : Nat} {s : Sc} {m : Nat} {rv : Value} (h : ScAt W b s m rv) (hrc : s.recs.length ≤ 100000) (i : Nat) (hi : i ≤ 100000) (bs : List UInt8) (hl : bs.length = 64) (q : Pg) (hn : q.nu < 4294967296) (hlen : q.da.length ≤ 49)
    (R : ∀ W, Calls Try.prog 44 #[.agg (bs.map bv).toArray] W fun r w' => r = .returned (.tuple #[.agg #[.int .u32 q.ep, .int .u32 q.nu, .int .i64 q.ki, .bool q.fi, .bool q.la, .string ⟨q.da.toArray⟩], .int .i64 0]) ∧ Below W.heap.size W w') :
    Calls Try.prog 99 #[.pointer (some ⟨b, 0, none⟩), .int .i64 i, .agg (bs.map bv).toArray] W fun r w' => r = .returned (.tuple #[]) ∧ OneR W w' b (s.one i (some q)) (max m q.ep) := by
  have HB : Hid (∀ c t, c = (bs.map bv).toArray → Buf (W.alloc (.cells c t)) W.heap.size bs) := Lib.hid (fun c t hc => Buf.new W bs c t hc hl)
  have R := Lib.hid R
  have HS := Lib.hid h
  have HLT := Lib.hid h.lt
  clear h
  have hmx := Lib.hid (show (if m < q.ep then (q.ep : Int) else (m : Int)) = ((max m q.ep : Nat) : Int) by split <;> omega)
  go_enter Try.func99, Try.ntmps99
  go_wp2_with (refine wpList_load56g _ (by rfl) (by rfl) _ (by rfl) bs (HB.out _ _ (by rfl)) ?_)
  refine (R.out _).mono ?_
  rintro r w1 ⟨rfl, hb1⟩
  go_upto_region 3 with fail
  refine wp_gate (fun X => SX W X b w1.heap.size s m rv q) (SX.start HS.out hb1) ?_
  intro w2 hX
  generalize w1.heap.size = g at *
  have HX := Lib.hid hX
  have y1 : ∀ y : WS (fun X => X = w2.drew), y.w.cell? ⟨b, 7, none⟩ = some (.int .u32 (m : Int)) := fun y => by rw [y.ok]; exact HX.out.sc.c7
  have y2 : ∀ y : WS (fun X => X = w2.drew), y.w.cell? ⟨g, 0, none⟩ = some (.int .u32 (q.ep : Int)) := fun y => by rw [y.ok]; exact HX.out.pg.c0
  have c7 := hX.sc.c7
  have f7 := hX.sc.fz 7
  clear hX hb1 HB R
  haveI : Nonempty (WS (fun X => X = w2.drew)) := ⟨⟨w2.drew, rfl⟩⟩
  refine wp_region_ws_tail (fun X => X = w2.drew) 10 (by kernel_rfl) (by kernel_rfl) rfl ?_
  simp only [List.take_succ_cons, List.take_zero, List.drop_succ_cons, List.drop_zero]
  repeat (go_big_quiet_step (fail))
  refine wpQuiet_nil ?_
  intro w8 hw8
  obtain rfl : w8 = w2.drew := hw8
  clear y1 y2 this
  go_upto_region 4 with fail
  simp only [hmx.out]
  refine wp_gate (fun X => SX W X b g s (max m q.ep) rv q) ((HX.out.most HLT.out _).step (Below.refl _ _).drew) ?_
  intro w3 hX
  clear HX c7 f7 hmx w2
  have HX := Lib.hid hX
  have c8 := hX.sc.c8
  have f8 := hX.sc.fz 8
  clear hX
  rcases Bool.eq_false_or_eq_true s.br with hbr | hbr
  · rw [hbr] at c8
    have HBR := Lib.hid hbr
    clear hbr
    go_wp2_with fail
    obtain ⟨k1, k2⟩ := HX.out.sc.setBr true
    refine bodyPost_ret (results_none rfl _ _ _) rfl ⟨rfl, rv, ?_, HX.out.below.trans k2⟩
    rw [one_br _ _ _ HBR.out]
    have e : ({ s with br := true } : Sc) = s := by
      have := HBR.out
      cases s
      simp_all
    rwa [e] at k1
  · rw [hbr] at c8
    have HBR := Lib.hid hbr
    clear hbr
    have ST := Lib.hid (fun X (hX : SX W X b g s (max m q.ep) rv q) => stands_any hX.sc i (by omega) q hn)
    go_wp2_with (refine wpList_load44g _ (by rfl) (by rfl) g 0 (by rfl) q HX.out.pg ?_)
    refine (ST.out _ HX.out).mono ?_
    rintro r w4 ⟨rfl, hb4⟩
    have HX := Lib.hid (HX.out.step hb4)
    clear hb4 ST c8 f8
    have c8 := HX.out.sc.c8
    have f8 := HX.out.sc.fz 8
    rcases Bool.eq_false_or_eq_true (s.stands i q) with hst | hst
    · rw [hst]
      have HST := Lib.hid hst
      clear hst
      go_wp2_with fail
      refine (begun_any _ b 0 _ HX.out.sc.jn).mono ?_
      rintro r w5 ⟨rfl, rfl⟩
      clear c8 f8
      have c2 := HX.out.pg.c2
      have f4 := HX.out.sc.fz 4
      have c4 := HX.out.sc.c4
      obtain ⟨a1, ha1⟩ : ∃ x, x = s.atOf i q := ⟨_, rfl⟩
      have HA := Lib.hid ha1
      have HX1 : Hid (∀ X, a1 = s.at_ → SX W X b g s (max m q.ep) rv q → SX W X b g { s with at_ := a1 } (max m q.ep) rv q) := Lib.hid (fun X ha hX => by rw [ha]; exact hX)
      have HK : Hid (a1 = if q.ki = 2 ∧ s.jn.be = false then i else s.at_) := Lib.hid (by rw [ha1]; rfl)
      clear ha1
      obtain ⟨be, hbe⟩ : ∃ be, s.jn.be = be := ⟨_, rfl⟩
      rw [hbe]
      have HBE := Lib.hid hbe
      clear hbe
      obtain ⟨j', hj'⟩ : ∃ x, (s.jn.take q).1 = x := ⟨_, rfl⟩
      obtain ⟨text, htext⟩ : ∃ x, (s.jn.take q).2.1 = x := ⟨_, rfl⟩
      obtain ⟨whole, hwhole⟩ : ∃ x, (s.jn.take q).2.2.1 = x := ⟨_, rfl⟩
      obtain ⟨err, herr⟩ : ∃ x, (s.jn.take q).2.2.2 = x := ⟨_, rfl⟩
      have TK := Lib.hid (fun X (hX : SX W X b g { s with at_ := a1 } (max m q.ep) rv q) => take_any s.jn q b 0 X hX.sc.jn hX.sc.lt hX.sc.le (by unfold maxLen; omega) hX.sc.fz)
      have HL' := Lib.hid (take_len s.jn q HX.out.sc.le)
      rw [hj', htext, hwhole, herr] at TK
      rw [hj'] at HL'
      have HTK := Lib.hid (And.intro hj' (And.intro htext (And.intro hwhole herr)))
      clear hj' htext hwhole herr
      have hgate : ∀ X, SX W X b g s (max m q.ep) rv q → (q.ki = 2 ∧ s.jn.be = false → False) → SX W X b g { s with at_ := a1 } (max m q.ep) rv q := fun X hX hno => HX1.out _ (by rw [HK.out, if_neg (fun h => hno h)]) hX
      have HG := Lib.hid hgate
      clear hgate
      rcases Bool.eq_false_or_eq_true (q.ki == 2) with hkb | hkb
      all_goals
        have HKI := Lib.hid hkb
        cases be
        all_goals
          go_upto_region 10 with fail
          refine wp_gate (fun X => SX W X b g { s with at_ := a1 } (max m q.ep) rv q) (by
            first
              | (refine HG.out _ HX.out ?_; rw [HBE.out]; simp; done)
              | (refine HG.out _ HX.out ?_; intro h; have h1 := HKI.out; rw [h.1] at h1; cases h1; done)
              | (rw [HK.out, if_pos ⟨by simpa using HKI.out, HBE.out⟩]; exact HX.out.at_ HLT.out i)) ?_
          intro w6 hX
          clear HX HX1 HK HG c2 f4 c4 hkb HKI
          have HX := Lib.hid hX
          clear hX
          have hd := HX.out.drew
          have q0 := hd.pg.c0
          have q1 := hd.pg.c1
          have q2 := hd.pg.c2
          have q3 := hd.pg.c3
          have q4 := hd.pg.c4
          have q5 := hd.pg.c5
          go_region_held3 (fun w' => w'.cell? ⟨g, 0, none⟩ = some (.int .u32 q.ep) ∧ w'.cell? ⟨g, 1, none⟩ = some (.int .u32 q.nu) ∧ w'.cell? ⟨g, 2, none⟩ = some (.int .i64 q.ki) ∧ w'.cell? ⟨g, 3, none⟩ = some (.bool q.fi) ∧ w'.cell? ⟨g, 4, none⟩ = some (.bool q.la) ∧ w'.cell? ⟨g, 5, none⟩ = some (.string ⟨q.da.toArray⟩))
            (first | go_keep | exact ⟨p7.out.c0, p7.out.c1, p7.out.c2, p7.out.c3, p7.out.c4, p7.out.c5⟩)
            ((go_at_call 45; refine (TK.out _ hd).mono ?_; rintro r w7 ⟨rfl, hjn, htk⟩; have p7 := Lib.hid ((hd.took HLT.out hjn htk HL').pg)))
          have HX := Lib.hid (hd.took HLT.out hjn htk HL'.out)
          clear hjn htk p7 q0 q1 q2 q3 q4 q5 hd TK
          have c4 := HX.out.sc.c4
          have c5 := HX.out.sc.c5
          have c8 := HX.out.sc.c8
          have f5 := HX.out.sc.fz 5
          have f8 := HX.out.sc.fz 8
          by_cases he0 : err = 0
          · subst he0
            have c6 := HX.out.sc.c6
            have f6 := HX.out.sc.fz 6
            have p0 := HX.out.pg.c0
            go_upto_region 16 with fail
            refine wp_gate (fun X => SX W X b g { s with jn := j', at_ := a1, ep := q.ep } (max m q.ep) rv q) (HX.out.ep HLT.out q.ep) ?_
            intro w8 hX
            clear HX c4 c5 c6 c8 f5 f6 f8 p0
            have HX := Lib.hid hX
            clear hX
            cases whole
            · have c4 := HX.out.sc.c4
              have c5 := HX.out.sc.c5
              have f5 := HX.out.sc.fz 5
              go_upto_region 19 with fail
              refine wp_gate (fun X => SX W X b g { s with jn := j', at_ := a1, ep := q.ep, next := i + 1 } (max m q.ep) rv q) (HX.out.next HLT.out (i + 1)) ?_
              intro w9 hX
              clear HX c4 c5 f5
              have HX := Lib.hid hX
              clear hX
              go_wp2_with fail
              refine (begun_any j' b 0 _ HX.out.sc.jn).mono ?_
              rintro r w10 ⟨rfl, rfl⟩
              have c4 := HX.out.sc.c4
              have c5 := HX.out.sc.c5
              have f5 := HX.out.sc.fz 5
              obtain ⟨be', hbe'⟩ : ∃ x, j'.be = x := ⟨_, rfl⟩
              rw [hbe']
              have HBE' := Lib.hid hbe'
              clear hbe'
              cases be'
              all_goals
                go_wp2_with fail
                go_end0
                refine ⟨rfl, rv, ?_, ?_⟩
                · rw [one_yes _ _ _ HBR.out HST.out, took_ok s i q HTK.out.2.2.2, HTK.out.1, HTK.out.2.2.1, ← HA.out, HBE'.out]
                  have hbrf := HBR.out
                  first | exact scAt_eq HX.out.sc (by simp [hbrf]) | exact scAt_eq (HX.out.next HLT.out a1).sc (by simp [hbrf])
                · first | exact HX.out.below | exact (HX.out.next HLT.out a1).below
            · go_upto_region 17 with fail
              have c3 := HX.out.sc.c3
              have c4 := HX.out.sc.c4
              obtain ⟨i0, hi, hz0, hz1, hz2⟩ := info_parts info160
              have HI := Lib.hid (And.intro hi (And.intro hz0 (And.intro hz1 hz2)))
              have HXW := Lib.hid (show Below w8.heap.size w8 (w8.alloc (.cells #[.int .i64 (a1 : Int), .string ⟨text.toArray⟩] 160)).drew from ((Below.refl _ _).alloc (Nat.le_refl _) _).drew)
              have HAO := Lib.hid (show (w8.alloc (.cells #[.int .i64 (a1 : Int), .string ⟨text.toArray⟩] 160)).drew.ownsRow (b + 1) 160 2 rv s.recs.length (recCells s.recs) from ownsRow_of_block HX.out.sc.row (fun g hg => HXW.out.block g (ownsRow_ge HX.out.sc.row hg).2))
              have HAN := Lib.hid (show ∀ j u, (#[Value.int .i64 (a1 : Int), .string ⟨text.toArray⟩] : Array Value).toList[j]? = some u → (w8.alloc (.cells #[.int .i64 (a1 : Int), .string ⟨text.toArray⟩] 160)).drew.cell? ((⟨w8.heap.size, 0, none⟩ : Addr).add j) = some u from World.news_of_block (heap_alloc_new w8 (.cells #[.int .i64 (a1 : Int), .string ⟨text.toArray⟩] 160)))
              have HAL := Lib.hid (show b + 1 ≤ (w8.alloc (.cells #[.int .i64 (a1 : Int), .string ⟨text.toArray⟩] 160)).drew.heap.size from Nat.le_trans HX.out.sc.lt HXW.out.size)
              have HKP := Lib.hid (And.intro ((HXW.out.cell (p := ⟨b, 3, none⟩) HX.out.sc.lt).trans c3) ((HXW.out.cell (p := ⟨b, 4, none⟩) HX.out.sc.lt).trans c4))
              clear hi hz0 hz1 hz2
              have k3 : (w8.alloc (.cells #[.int .i64 (a1 : Int), .string ⟨text.toArray⟩] 160)).cell? ⟨b, 3, none⟩ = some rv := HKP.out.1
              go_region_law ((refine step_append_lies _ (by rfl) _ _ 114 (by rfl) (b + 1) 160 i0 (.agg #[.int .i64 0, .string ⟨#[]⟩]) 2 24 Try.underlying114 HI.out.1 HI.out.2.1 HI.out.2.2.1 HI.out.2.2.2 (by kernel_rfl) (by decide) rv s.recs.length (recCells s.recs) (by rfl) HAO.out ⟨w8.heap.size, 0, none⟩ 1 1 [.int .i64 (a1 : Int), .string ⟨text.toArray⟩] (by rfl) (by simp) HAN.out (by simp [Value.oneCell']) (by decide) (by unfold maxLen; omega) (by omega) HAL.out _ rfl ?_; intro g2 cap w11 hown hgrow _ _; have HAP := Lib.hid (HX.out.appended (a1, text) HXW.out hgrow hown); have c3 := HAP.out.1; have f3 := HAP.out.2.1; clear hown hgrow))
              all_goals
                have HZ := Lib.hid (And.intro HAP.out.2.2.1 HAP.out.2.2.2.1)
                clear HAP HX HXW HAO HAN HAL HKP k3 c3 c4 f3 HI
                generalize w11.setCell ⟨b, 3, none⟩ (.slice (some ⟨g2, 0, none⟩) (s.recs.length + 1) cap) = w12 at *
                have c4 := HZ.out.1.c4
                have c5 := HZ.out.1.c5
                have f5 := HZ.out.1.fz 5
                go_upto_region 19 with fail
                obtain ⟨k1, k2⟩ := HZ.out.1.setNext (i + 1)
                have HZ := Lib.hid (And.intro k1 (HZ.out.2.trans k2))
                refine wp_gate (fun X => ScAt X b { s with jn := j', at_ := a1, ep := q.ep, recs := s.recs ++ [(a1, text)], next := i + 1 } (max m q.ep) (.slice (some ⟨g2, 0, none⟩) (s.recs.length + 1) cap) ∧ Below b W X) HZ.out ?_
                clear HZ k1 k2 c4 c5 f5
                intro w13 hZ
                have HZ := Lib.hid hZ
                clear hZ
                go_wp2_with fail
                refine (begun_any j' b 0 _ HZ.out.1.jn).mono ?_
                rintro r w14 ⟨rfl, rfl⟩
                have c4 := HZ.out.1.c4
                have c5 := HZ.out.1.c5
                have f5 := HZ.out.1.fz 5
                obtain ⟨be', hbe'⟩ : ∃ x, j'.be = x := ⟨_, rfl⟩
                rw [hbe']
                have HBE' := Lib.hid hbe'
                clear hbe'
                cases be'
                all_goals
                  go_wp2_with fail
                  go_end0
                  refine ⟨rfl, .slice (some ⟨g2, 0, none⟩) (s.recs.length + 1) cap, ?_, ?_⟩
                  · rw [one_yes _ _ _ HBR.out HST.out, took_ok s i q HTK.out.2.2.2, HTK.out.1, HTK.out.2.1, HTK.out.2.2.1, ← HA.out, HBE'.out]
                    have hbrf := HBR.out
                    first | exact scAt_eq HZ.out.1 (by simp [hbrf]) | exact scAt_eq (HZ.out.1.setNext a1).1 (by simp [hbrf])
                  · first | exact HZ.out.2 | exact HZ.out.2.trans (HZ.out.1.setNext a1).2
          · have heb : (err != 0) = true := by simpa using he0
            have HE := Lib.hid he0
            clear he0
            go_wp2_with fail
            refine bodyPost_ret (results_none rfl _ _ _) rfl ⟨rfl, rv, ?_, ?_⟩
            · rw [one_yes _ _ _ HBR.out HST.out, took_err s i q (by rw [HTK.out.2.2.2]; exact HE.out), HTK.out.1, ← HA.out, HBE.out]
              first | exact (HX.out.broke HLT.out true).sc | exact ((HX.out.broke HLT.out true).next HLT.out a1).sc
            · first | exact (HX.out.broke HLT.out true).below | exact ((HX.out.broke HLT.out true).next HLT.out a1).below
    · rw [hst]
      have HST := Lib.hid hst
      clear hst
      go_wp2_with fail
      obtain ⟨k1, k2⟩ := HX.out.sc.setBr true
      refine bodyPost_ret (results_none rfl _ _ _) rfl ⟨rfl, rv, ?_, HX.out.below.trans k2⟩
      rw [one_not _ _ _ HST.out]
      exact k1
end Go.Proofs.Ytmaaljfcnnlnpaa
