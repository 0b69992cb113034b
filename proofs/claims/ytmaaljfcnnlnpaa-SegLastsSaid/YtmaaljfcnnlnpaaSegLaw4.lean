/-
  What the law SegLasts leans on: what befalls a log; and a row's being copied.
-/
import Derived.Test.YtmaaljfcnnlnpaaSegLaw3
import Derived.Maps.AppendAt
namespace Go.Proofs.Ytmaaljfcnnlnpaa
open Go.RowKit

/-- A log of P pages that bears texts, the first of them sure, behind so many acts. -/
structure Las (P : Nat) (L : Lg) (ts : List (List UInt8)) (sure i : Nat) : Prop where
  ok : L.ok
  size : L.D.size = P
  len : L.D.loose.length ≤ 200 * i
  li : ∃ old E n0 s0 new m, LI old P E n0 s0 L new m ∧ (L.fz = false → (endS old n0 s0 new).jn = Jn.zero) ∧ (endS old n0 s0 new).recs.map Prod.snd = ts ∧ E ≤ i + 1 ∧ sure ≤ (go (mix old n0 new) s0 n0 m).recs.length

section
variable {P : Nat} {L : Lg} {ts : List (List UInt8)} {sure i : Nat}

theorem Las.le (h : Las P L ts sure i) : L.nx ≤ P := by
  obtain ⟨old, E, n0, s0, new, m, l1, _⟩ := h.li
  exact l1.le

theorem Las.more (h : Las P L ts sure i) : Las P L ts sure (i + 1) := by
  obtain ⟨old, E, n0, s0, new, m, l1, l2, l3, l4, l5⟩ := h.li
  have := h.len
  exact ⟨h.ok, h.size, by omega, old, E, n0, s0, new, m, l1, l2, l3, by omega, l5⟩

theorem LI.like {old : Nat → Option Pg} {E n0 : Nat} {s0 : Sc} {new : List Pg} {m : Nat} (h : LI old P E n0 s0 L new m) (D : Dk) (h1 : D.sure = L.D.sure) (h2 : D.loose = L.D.loose) : LI old P E n0 s0 { L with D := D } new m :=
  ⟨h.good, h.ep, h.lt, h.nx, h.le, h.hP, h.fine, h.chain, h.hm, fun i hi => by
    show rdO (D.sure (i : Int)) = _
    rw [h1]; exact h.sure i hi, h2.trans h.loose⟩

theorem Las.like (h : Las P L ts sure i) {E : Dk} (hE : E.like L.D) : Las P { L with D := E } ts sure i := by
  obtain ⟨old, E', n0, s0, new, m, l1, l2, l3, l4, l5⟩ := h.li
  have o := h.ok
  exact ⟨⟨hE.down.trans o.down, by show -1 ≤ E.fuse ∧ E.fuse ≤ 1000000; rw [hE.fuse]; exact o.fuse, by show E.loose.length ≤ 90000; rw [hE.loose]; exact o.len, o.ep, by show (L.nx : Int) ≤ E.size; rw [hE.size]; exact o.nx, by show E.size ≤ 100000; rw [hE.size]; exact o.size⟩, hE.size.trans h.size, by show E.loose.length ≤ _; rw [hE.loose]; exact h.len,
    old, E', n0, s0, new, m, l1.like E hE.sure hE.loose, l2, l3, l4, l5⟩

theorem Las.fuse (h : Las P L ts sure i) (f : Int) (hf : -1 ≤ f ∧ f ≤ 1000000) : Las P { L with D := { L.D with fuse := f } } ts sure (i + 1) := by
  obtain ⟨old, E', n0, s0, new, m, l1, l2, l3, l4, l5⟩ := h.li
  have o := h.ok
  have := h.len
  exact ⟨⟨o.down, hf, o.len, o.ep, o.nx, o.size⟩, h.size, by show L.D.loose.length ≤ _; omega, old, E', n0, s0, new, m, l1.like _ rfl rfl, l2, l3, by omega, l5⟩

theorem Las.new {D : Dk} {n : Nat} (h : D.fresh n) (hn : n ≤ 1024) : Las n ⟨D, 1, 0, false⟩ [] 0 0 := by
  have o := fresh_ok h hn
  exact ⟨o, h.size, by show D.loose.length ≤ 0; rw [h.loose]; exact Nat.le_refl _, fun _ => none, 1, 0, Sc.zero, [], 0, fresh_LI h n (by omega), fun _ => rfl, rfl, Nat.le_refl _, Nat.zero_le _⟩

theorem Las.app (h : Las P L ts sure i) (hi : i ≤ 100) (rec : List UInt8) :
    ((L.app P rec).2.2 = 0 → Las P (L.app P rec).1 (ts ++ [rec]) sure (i + 1)) ∧ ((L.app P rec).2.2 ≠ 0 → Las P (L.app P rec).1 ts sure (i + 1)) := by
  have hlen := h.len
  obtain ⟨o1, o2, o3⟩ := app_ok h.ok P (by rw [h.size]; exact Int.le_refl _) rec (by omega)
  obtain ⟨old, E, n0, s0, new, m, l1, l2, l3, l4, l5⟩ := h.li
  obtain ⟨b, k1, k2, k3⟩ := app_LI l1 rec l2
  have hgo : sure ≤ (go (mix old n0 (new ++ b)) s0 n0 m).recs.length := by rw [go_mix_app b m l1.hm]; exact l5
  refine ⟨fun e => ?_, fun e => ?_⟩
  · obtain ⟨z1, z2, x, z3⟩ := k2 e
    exact ⟨o1, o3.trans h.size, Nat.le_trans o2 (by omega), old, E, n0, s0, _, m, k1, fun _ => z2, by rw [z3, List.map_append, l3]; rfl, by omega, hgo⟩
  · obtain ⟨z1, z2⟩ := k3 e
    refine ⟨o1, o3.trans h.size, Nat.le_trans o2 (by omega), old, E, n0, s0, _, m, k1, fun hz => ?_, by rw [z1, l3], by omega, hgo⟩
    rcases z2 with ⟨y1, y2, _⟩ | ⟨_, y2, _⟩
    · rw [y1] at hz
      rw [y2, List.append_nil]
      exact l2 hz
    · rw [y2] at hz; cases hz

theorem Las.sync (h : Las P L ts sure i) : (L.sync.2 = 0 → Las P L.sync.1 ts ts.length (i + 1)) ∧ (L.sync.2 ≠ 0 → Las P L.sync.1 ts sure (i + 1)) := by
  have hlen := h.len
  obtain ⟨o1, o2, o3⟩ := sync_ok h.ok
  obtain ⟨old, E, n0, s0, new, m, l1, l2, l3, l4, l5⟩ := h.li
  obtain ⟨m', k1, k2, k3⟩ := sync_LI l1
  refine ⟨fun e => ?_, fun e => ?_⟩
  · obtain ⟨z1, z2, z3⟩ := k2 e
    refine ⟨o1, o3.trans h.size, Nat.le_trans o2 (by omega), old, E, n0, s0, new, m', k1, fun _ => l2 z3, l3, by omega, ?_⟩
    rw [z1, ← l3, List.length_map]
    exact Nat.le_refl _
  · obtain ⟨z1, z2⟩ := k3 e
    subst z1
    refine ⟨o1, o3.trans h.size, Nat.le_trans o2 (by omega), old, E, n0, s0, new, m', k1, fun hz => ?_, l3, by omega, l5⟩
    rcases z2 with ⟨y1, _, _⟩ | ⟨_, y2, _⟩
    · rw [y1] at hz; exact l2 hz
    · rw [y2] at hz; cases hz

theorem Las.scan (h : Las P L ts sure i) (hP : 0 < P) : (stepTo L.D.pgs P P).recs.map Prod.snd = ts := by
  obtain ⟨old, E, n0, s0, new, m, l1, l2, l3, l4, l5⟩ := h.li
  obtain ⟨n', s', g1, g2⟩ := cur_good l1
  rw [(scan_good g1 hP).1, g2]
  exact l3

/-- The power has gone, and is there again. -/
structure Back (P : Nat) (D' : Dk) (ts : List (List UInt8)) (sure i : Nat) : Prop where
  few : mostTo D'.pgs P < 1000000
  sure : sure ≤ (stepTo D'.pgs P P).recs.length
  beg : Begin (stepTo D'.pgs P P).recs ts
  las : ∀ E : Dk, E.like D' → Las P ⟨E, mostTo D'.pgs P + 1, (stepTo D'.pgs P P).next, false⟩ ((stepTo D'.pgs P P).recs.map Prod.snd) (stepTo D'.pgs P P).recs.length (i + 1)

theorem Las.crash (h : Las P L ts sure i) (hi : i ≤ 100) (hP : 0 < P) (hP2 : P ≤ 1024) (ks : Nat → Bool) (D' : Dk) (h1 : D'.sure = stl ks L.D.loose L.D.sure) (h2 : D'.loose = []) (h3 : D'.size = P) (h4 : D'.down = false) (h5 : D'.fuse = -1) : Back P D' ts sure i := by
  obtain ⟨old, E, n0, s0, new, m, l1, l2, l3, l4, l5⟩ := h.li
  obtain ⟨k, n', s', k1, k2, g1, g2⟩ := crash_good l1 ks
  have hp : (fun i : Nat => rdO (stl ks L.D.loose L.D.sure (i : Int))) = D'.pgs := funext fun i => by
    unfold Dk.pgs Dk.seen
    rw [h2, h1]
    rfl
  rw [hp] at g1
  have hlt := l1.lt
  have hM : mostTo D'.pgs P ≤ E := mostTo_le _ _ _ (fun i p hi hp => by have := g1.low i p hi hp; omega)
  obtain ⟨q1, q2⟩ := scan_good g1 hP
  obtain ⟨a, ha⟩ := go_recs_le (mix old n0 new) s0 n0 m k k1
  obtain ⟨b, hb⟩ := go_recs_le (mix old n0 new) s0 n0 k new.length k2
  refine ⟨by omega, ?_, ⟨b.map Prod.snd, ?_⟩, fun D2 hD2 => ?_⟩
  · rw [q1, g2, ha, List.length_append]; omega
  · rw [q1, g2, ← l3]
    unfold endS
    rw [hb, List.map_append]
  · have hl2 : D2.loose = [] := hD2.loose.trans h2
    have hO : LI D'.pgs P (mostTo D'.pgs P + 1) n' s' ⟨D', mostTo D'.pgs P + 1, n', false⟩ [] 0 := LI.opened g1 h2 (by omega) (by omega)
    have hle := g1.le
    rw [q1, q2]
    refine ⟨⟨hD2.down.trans h4, by show -1 ≤ D2.fuse ∧ D2.fuse ≤ 1000000; rw [hD2.fuse, h5]; decide, by show D2.loose.length ≤ 90000; rw [hl2]; exact Nat.zero_le _, by show mostTo D'.pgs P + 1 < 4294967296; omega, by show (n' : Int) ≤ D2.size; rw [hD2.size, h3]; omega, by show D2.size ≤ 100000; rw [hD2.size, h3]; omega⟩, hD2.size.trans h3, by show D2.loose.length ≤ _; rw [hl2]; exact Nat.zero_le _,
      _, _, n', s', [], 0, hO.like D2 hD2.sure hD2.loose, fun _ => g1.jn, rfl, by omega, Nat.le_refl _⟩
end

theorem ds_open_down {w W : World} {d m1 m2 : Nat} {D : Dk} {l : List Nat} (h : DS w W d m1 m2 D l) (hdn : D.down = true) (N : Nat) (hN : D.size = N) (h32 : 32 ≤ N) (hN2 : N ≤ 1024) :
    Calls Try.prog 74 #[.pointer (some ⟨d, 0, none⟩)] W fun r w' => r = .returned (.tuple #[.pointer none, .slice none 0 0, .int .i64 7]) ∧ DS w w' d m1 m2 D l ∧ Stays W w' l := by
  obtain ⟨v, hv⟩ := h.dk
  refine (open_down hv.1 hdn N hN h32 hN2).mono ?_
  rintro r w' ⟨rfl, hd, hf⟩
  exact ⟨rfl, h.call hv hd hf⟩

/-- What a row of texts yields that is appended. -/
def StrSrc (w : World) (sv : Value) (m : Nat) (ys : List Value) : Prop :=
  (sv = .slice none 0 0 ∧ m = 0 ∧ ys = []) ∨ ∃ ad c, sv = .slice (some ad) m c ∧ ys.length = m ∧ (∀ j u, ys[j]? = some u → w.cell? (ad.add j) = some u) ∧ ∀ u ∈ ys, u.oneCell' = true

theorem strC_one (ts : List (List UInt8)) : ∀ u ∈ strC ts, u.oneCell' = true := fun u hu => by
  obtain ⟨x, _, rfl⟩ := List.mem_map.1 hu
  rfl

theorem strSrc_row {w : World} {base : Nat} {v : Value} {ts : List (List UInt8)} (h : w.ownsRow base 9 1 v ts.length (strC ts)) : StrSrc w v ts.length (strC ts) := by
  rcases h.2 with ⟨e1, e2⟩ | ⟨g, cap, cur, e1, _⟩
  · subst e1
    have : ts = [] := List.eq_nil_of_length_eq_zero e2
    subst this
    exact .inl ⟨rfl, rfl, rfl⟩
  · subst e1
    refine .inr ⟨_, _, rfl, by simp [strC], fun j u hu => ?_, strC_one ts⟩
    rw [addr_add, Nat.zero_add]
    exact own_cell h j u hu

theorem app_str {w : World} {base g n cap : Nat} {xs : List Value} (hown : w.ownsRow base 9 1 (.slice (some ⟨g, 0, none⟩) n cap) n xs) {sv : Value} {m : Nat} {ys : List Value} (hs : StrSrc w sv m ys) (hn : n + m ≤ 100000) (hbase : base ≤ w.heap.size) (ty : TypeId) :
    ∃ g' cap' w', (Builtin.append_ #[71, 71] ty #[.slice (some ⟨g, 0, none⟩) n cap, sv]).run Try.prog w = .ok (.slice (some ⟨g', 0, none⟩) (n + m) cap') w' ∧
      w'.ownsRow base 9 1 (.slice (some ⟨g', 0, none⟩) (n + m) cap') (n + m) (xs ++ ys) ∧ w.grownBy w' (some g) ∧ (g' = g ∨ g' = w.heap.size) := by
  obtain ⟨i0, hi, hz0, hz1, hz2⟩ := info_parts info9
  rcases hs with ⟨rfl, rfl, rfl⟩ | ⟨ad, c, rfl, h1, h2, h3⟩
  · have hrun := run_append_owned_none (P := Try.prog) (w := w) base 71 ty 9 i0 1 Try.underlying71 hi _ n xs hown
    exact ⟨g, cap, w, hrun, by rw [List.append_nil]; exact hown, ⟨rfl, rfl, rfl, Nat.le_refl _, fun _ _ _ => rfl⟩, .inl rfl⟩
  · obtain ⟨v', w', hr, ho, hg, hn', hl⟩ := run_append_own_at (P := Try.prog) w base 71 ty 9 i0 (.string ⟨#[]⟩) 1 16 Try.underlying71 hi hz0 hz1 hz2 rfl (by decide) _ n xs hown ad m c ys (by rw [h1, Nat.mul_one]) h2 h3 (by unfold maxLen; omega) (by omega) hbase
    rcases ho.2 with ⟨e1, _⟩ | ⟨g', cap', cur, e1, _⟩
    · exact absurd (hn'.1 e1).1 (by simp)
    · subst e1
      refine ⟨g', cap', w', hr, ho, hg, ?_⟩
      rcases hl with e | e
      · left; simpa [Value.ownBlock] using e
      · right; simpa [Value.ownBlock] using e

theorem wp_app_str {w : World} {o : Oper} {a : Act} {K : Act → World → Prop} {Q : Exit → Act → World → Prop} (s x : Operand) (ho : o.op = .call { callee := .builtin .append, args := #[s, x], argTypes := #[71, 71] })
    {base g n cap : Nat} {xs : List Value} (hown : w.ownsRow base 9 1 (.slice (some ⟨g, 0, none⟩) n cap) n xs) {sv : Value} {m : Nat} {ys : List Value} (hs : StrSrc w sv m ys) (h1 : a.eval s = .slice (some ⟨g, 0, none⟩) n cap) (h2 : a.eval x = sv) (hn : n + m ≤ 100000) (hbase : base ≤ w.heap.size)
    (h : ∀ g' cap' w', w'.ownsRow base 9 1 (.slice (some ⟨g', 0, none⟩) (n + m) cap') (n + m) (xs ++ ys) → w.grownBy w' (some g) → (g' = g ∨ g' = w.heap.size) → K (a.put o.dst (.slice (some ⟨g', 0, none⟩) (n + m) cap')) w') : o.wp Try.prog a w K Q := by
  obtain ⟨g', cap', w', hr, k1, k2, k3⟩ := app_str hown hs hn hbase o.type
  unfold Oper.wp execOp
  simp only [ho, resolve, invoke, builtin, Sem.run_bind, Sem.run_pure, Result.andThen_ok, List.map_toArray, List.map_cons, List.map_nil, h1, h2, hr]
  exact h g' cap' w' k1 k2 k3

theorem wpList_app_str {w : World} {ops : Array Oper} {rest : List Oper} {o : Oper} {a : Act} {Q : Exit → Act → World → Prop} (hgd : o.guard = none) (s x : Operand) (ho : o.op = .call { callee := .builtin .append, args := #[s, x], argTypes := #[71, 71] })
    {base g n cap : Nat} {xs : List Value} (hown : w.ownsRow base 9 1 (.slice (some ⟨g, 0, none⟩) n cap) n xs) {sv : Value} {m : Nat} {ys : List Value} (hs : StrSrc w sv m ys) (h1 : a.eval s = .slice (some ⟨g, 0, none⟩) n cap) (h2 : a.eval x = sv) (hn : n + m ≤ 100000) (hbase : base ≤ w.heap.size)
    (h : ∀ g' cap' w', w'.ownsRow base 9 1 (.slice (some ⟨g', 0, none⟩) (n + m) cap') (n + m) (xs ++ ys) → w.grownBy w' (some g) → (g' = g ∨ g' = w.heap.size) → wpList Try.prog ops Q rest (a.put o.dst (.slice (some ⟨g', 0, none⟩) (n + m) cap')) w') : wpList Try.prog ops Q (o :: rest) a w :=
  wpList_plain hgd fun _ hK => wp_app_str s x ho hown hs h1 h2 hn hbase fun g' cap' w' k1 k2 k3 => hK _ _ (h g' cap' w' k1 k2 k3)

theorem empty_row (w : World) (base : Nat) (hb : base ≤ w.heap.size) : (w.alloc (.cells #[] 9)).ownsRow base 9 1 (.slice (some ⟨w.heap.size, 0, none⟩) 0 0) 0 [] :=
  ⟨rfl, .inr ⟨_, 0, #[], rfl, hb, heap_alloc_new w _, Nat.le_refl _, Nat.zero_le _, rfl, rfl⟩⟩

theorem below_grown {n : Nat} {W X Y : World} {g : Nat} (hb : Below n W X) (hg : X.grownBy Y (some g)) (hn : n ≤ g) (hW : n ≤ W.heap.size) : Below n W Y :=
  ⟨hg.os.trans hb.os, hg.tape.trans hb.tape, hg.output.trans hb.output, Nat.le_trans hb.size hg.size, fun k hk => (hg.block k (Nat.lt_of_lt_of_le hk (Nat.le_trans hW hb.size)) (fun e => by cases e; omega)).trans (hb.block k hk)⟩

theorem LS.fresh {w W W' : World} {g d m1 m2 : Nat} {L : Lg} {l : List Nat} {F : Nat → Option Obj} (h : LS w W g d m1 m2 L l F) (hb : Below W.heap.size W W') (k : Nat) (h1 : W.heap.size ≤ k) (h2 : k < W'.heap.size) : LS w W' g d m1 m2 L [k] (fun x => W'.heap[x]?) := by
  have h0 := h.addNew hb k h1 h2
  refine ⟨h0.ds.less (fun x hx => ?_), h0.lg, fun _ _ => rfl, fun hx => h0.ng ?_⟩
  · rcases List.mem_cons.1 hx with rfl | hx
    · exact .head _
    · obtain rfl : x = k := by simpa using hx
      exact .tail _ (.head _)
  · obtain rfl : g = k := by simpa using hx
    exact .head _

section
variable {w W : World} {d m1 m2 P : Nat} {D E : Dk} {l : List Nat} {st : Sc} {mo : Nat}
theorem scan_like (h : DS w W d m1 m2 E l) (hE : E.like D) (hdn : D.down = false) (hsz : D.size = P) (hll : D.loose = []) (h32 : 32 ≤ P) (hP : P ≤ 1024) (h16 : P / 16 * 16 = P) (hst : stepTo D.pgs P P = st) (hmo : mostTo D.pgs P = mo) :
    Calls Try.prog 77 #[.pointer (some ⟨d, 0, none⟩)] W fun r w' => ∃ rv E', r = .returned (.tuple #[rv, .int .i64 st.next, .int .u32 mo, .int .i64 0]) ∧ E'.like D ∧
      DS w w' d m1 m2 E' (rvl rv ++ l) ∧ Stays W w' l ∧ w'.ownsRow W.heap.size 160 2 rv st.recs.length (recCells st.recs) := by
  have h0 := ds_scan h (hE.down.trans hdn) P (hE.size.trans hsz) h32 hP (by rw [hE.loose, hll]; exact Nat.zero_le _) P h16
  rw [hE.pgs, hst, hmo] at h0
  refine h0.mono ?_
  rintro r w' ⟨rv, E', rfl, hE', hS, hs, hrow⟩
  exact ⟨rv, E', rfl, hE'.trans hE, hS, hs, hrow⟩
theorem open_like (h : DS w W d m1 m2 E l) (hE : E.like D) (hdn : D.down = false) (hsz : D.size = P) (hll : D.loose = []) (h32 : 32 ≤ P) (hP : P ≤ 1024) (h16 : P / 16 * 16 = P) (hst : stepTo D.pgs P P = st) (hmo : mostTo D.pgs P = mo) (hf : mo < 1000000) :
    Calls Try.prog 74 #[.pointer (some ⟨d, 0, none⟩)] W fun r w' => ∃ rv g E', r = .returned (.tuple #[.pointer (some ⟨g, 0, none⟩), rv, .int .i64 0]) ∧ E'.like D ∧
      LS w w' g d m1 m2 ⟨E', mo + 1, st.next, false⟩ (rvl rv ++ l) (fun k => w'.heap[k]?) ∧ Stays W w' l ∧ w'.ownsRow W.heap.size 160 2 rv st.recs.length (recCells st.recs) := by
  have h0 := ds_open h (hE.down.trans hdn) P (hE.size.trans hsz) h32 hP (by rw [hE.loose, hll]; exact Nat.zero_le _) P h16 (by rw [hE.pgs, hmo]; exact hf)
  rw [hE.pgs, hst, hmo] at h0
  refine h0.mono ?_
  rintro r w' ⟨rv, g, E', rfl, hE', hS, hs, hrow⟩
  exact ⟨rv, g, E', rfl, hE'.trans hE, hS, hs, hrow⟩
end

/-- The loop's state. -/
structure LaS (w W : World) (g d m1 m2 P : Nat) (v : Value) (L : Lg) (ts : List (List UInt8)) (sure i : Nat) : Prop where
  las : Las P L ts sure i
  ls : LS w W g d m1 m2 L (rvl v) (fun k => W.heap[k]?)
  row : W.ownsRow w.heap.size 9 1 v ts.length (strC ts)
  le : ts.length ≤ i

theorem LaS.cut {w W X : World} {g d m1 m2 P : Nat} {L : Lg} {l : List Nat} {F : Nat → Option Obj} {ts : List (List UInt8)} {sure j : Nat} {g2 cap2 n : Nat} (hz : Las P L ts sure j) (hL : LS w W g d m1 m2 L l F) (hb : Below W.heap.size W X) (hn : n = ts.length)
    (hrow : X.ownsRow w.heap.size 9 1 (.slice (some ⟨g2, 0, none⟩) n cap2) n (strC ts)) (hg2 : W.heap.size ≤ g2) (hle : ts.length ≤ j) :
    LaS w X g d m1 m2 P (.slice (some ⟨g2, 0, none⟩) n cap2) L ts sure j := by
  subst hn
  exact ⟨hz, hL.fresh hb g2 hg2 (ownsRow_ge hrow (by rfl)).2, hrow, hle⟩
end Go.Proofs.Ytmaaljfcnnlnpaa
