/-
  The walk of the law SegFull.
-/
import Derived.Test.YtmaaljfcnnlnpaaSegLaw1
import Derived.Test.YtmaaljfcnnlnpaaSegLog2
import Derived.Laws.OwnMore
import Derived.Deep.OwnRows
namespace Go.Proofs.Ytmaaljfcnnlnpaa
open Go.RowKit Go.Deep

section
variable {w W : World} {g d m1 m2 : Nat} {L : Lg} {l : List Nat} {F : Nat → Option Obj}
theorem ls_scan (h : LS w W g d m1 m2 L l F) (hdn : L.D.down = false) (N : Nat) (hN : L.D.size = N) (h32 : 32 ≤ N) (hN2 : N ≤ 1024) (hlen : L.D.loose.length ≤ 100000) (P : Nat) (hP : N / 16 * 16 = P) :
    Calls Try.prog 77 #[.pointer (some ⟨d, 0, none⟩)] W fun r w' => ∃ rv E, r = .returned (.tuple #[rv, .int .i64 (stepTo L.D.pgs P N).next, .int .u32 (mostTo L.D.pgs N), .int .i64 0]) ∧ E.like L.D ∧
      LS w w' g d m1 m2 { L with D := E } (rvl rv ++ l) (fun k => w'.heap[k]?) ∧ Stays W w' l ∧ w'.ownsRow W.heap.size 160 2 rv (stepTo L.D.pgs P N).recs.length (recCells (stepTo L.D.pgs P N).recs) := by
  refine (ds_scan h.ds hdn N hN h32 hN2 hlen P hP).mono ?_
  rintro r w' ⟨rv, E, rfl, hE, hS, hst, hrow⟩
  have hg := h.lg.lt
  have hg' : g < w'.heap.size := hS.dk.elim fun _ k => (k.2 g (List.mem_append_right _ (.head _))).1
  refine ⟨rv, E, rfl, hE, ⟨hS.less (fun k hk => ?_), h.lg.of_block (hst g (.head _)) hg', fun _ _ => rfl, fun hm => ?_⟩, fun k hk => hst k (.tail _ hk), hrow⟩
  · rcases List.mem_cons.1 hk with rfl | hk
    · exact List.mem_append_right _ (.head _)
    · rcases List.mem_append.1 hk with hk | hk
      · exact List.mem_append_left _ hk
      · exact List.mem_append_right _ (.tail _ hk)
  · rcases List.mem_append.1 hm with hm | hm
    · have := (ownsRow_ge hrow (mem_rvl.1 hm)).1
      omega
    · exact h.ng hm
end

theorem zeros_str (w : World) (n : Nat) : (convert 25 9 (.slice (some ⟨w.heap.size, 0, none⟩) n n)).run Try.prog (w.alloc (.cells (madeCells #[.int .u8 0] n) 5)) = .ok (.string ⟨(List.replicate n (0 : UInt8)).toArray⟩) (w.alloc (.cells (madeCells #[.int .u8 0] n) 5)) := by
  refine run_bytes_str (bs := List.replicate n 0) (fun j hj => ?_) (by simp)
  have hj' : j < n := by simpa using hj
  rw [World.cell?_alloc_new, Nat.zero_add]
  have : (madeCells #[Value.int .u8 0] n)[j]? = (List.replicate n (Value.int .u8 0))[j]? := by rw [← toList_madeCells_one, Array.getElem?_toList]
  rw [this, List.getElem?_replicate, if_pos hj', List.getElem_replicate]
  rfl

theorem zeros_big (w : World) (n : Nat) : ∃ b : ByteArray, b.size = n ∧ (convert 25 9 (.slice (some ⟨w.heap.size, 0, none⟩) n n)).run Try.prog (w.alloc (.cells (madeCells #[.int .u8 0] n) 5)) = .ok (.string b) (w.alloc (.cells (madeCells #[.int .u8 0] n) 5)) :=
  ⟨_, by simp [ByteArray.size], zeros_str w n⟩

/-- A log of 32 pages that bears c records, without a fuse. -/
structure Full (L : Lg) (c : Nat) : Prop where
  ok : L.ok
  fz : L.fz = false
  fuse : L.D.fuse = -1
  size : L.D.size = 32
  len : L.D.loose.length ≤ 200 * c
  nx : c ≤ L.nx
  li : ∃ new, LI (fun _ => none) 32 1 0 Sc.zero L new 0 ∧ (endS (fun _ => none) 0 Sc.zero new).jn = Jn.zero ∧ (endS (fun _ => none) 0 Sc.zero new).recs.length = c

theorem Full.le {L : Lg} {c : Nat} (h : Full L c) : L.nx ≤ 32 := h.li.elim fun _ h => h.1.le

theorem fresh_LI {D : Dk} {n : Nat} (h : D.fresh n) (P : Nat) (hP : P ≤ 100000) : LI (fun _ => none) P 1 0 Sc.zero ⟨D, 1, 0, false⟩ [] 0 := by
  refine ⟨good_none (fun _ => rfl) P, rfl, by decide, rfl, Nat.zero_le _, hP, fun p hp => (by cases hp), fun k hk => ?_, Nat.le_refl _, fun i _ => ?_, h.loose⟩
  · obtain rfl : k = 0 := by simpa using hk
    exact ⟨0, RunAt.start (good_none (fun _ => rfl) P) _⟩
  · show rdO (D.sure (i : Int)) = mix (fun _ => none) 0 (List.take 0 []) i
    rw [h.sure, rdO_zero, mix_ge _ _ _ _ (by simp)]

theorem Full.new {D : Dk} (h : D.fresh 32) : Full ⟨D, 1, 0, false⟩ 0 :=
  ⟨fresh_ok h (by decide), rfl, h.fuse, h.size, by show D.loose.length ≤ 0; rw [h.loose]; exact Nat.le_refl _, Nat.le_refl _, [], fresh_LI h 32 (by decide), rfl, rfl⟩

theorem Full.app_yes {L : Lg} {c : Nat} (h : Full L c) (rec : List UInt8) (h1 : 1 ≤ rec.length) (h2 : rec.length ≤ 4096) (hroom : L.nx + layLen L.nx (cnt rec.length) ≤ 32) : Full (L.app 32 rec).1 (c + 1) ∧ (L.app 32 rec).2.2 = 0 := by
  have hle := h.le
  have hlen := h.len
  have hnx := h.nx
  obtain ⟨a1, a2, a3, a4, a5, a6, a7⟩ := app_free L h.ok 32 (by rw [h.size]; decide) rec h1 h2 h.fuse h.fz hroom (by omega)
  obtain ⟨new, l1, l2, l3⟩ := h.li
  obtain ⟨b, k1, k2, k3⟩ := app_LI l1 rec (fun _ => l2)
  have hc : cnt rec.length ≤ 84 := by unfold cnt; omega
  have hpos := layLen_pos L.nx (cnt rec.length) (cnt_pos _ (by omega))
  rw [a1] at k1 k2
  rw [a1]
  obtain ⟨_, j1, x, j2⟩ := k2 rfl
  exact ⟨⟨a2, a5, a4, by rw [a6]; exact h.size, Nat.le_trans a7 (by omega), by show c + 1 ≤ (L.puts (pieces 0 rec)).1.nx; rw [a3]; omega, _, k1, j1, by rw [j2, List.length_append, l3]; rfl⟩, rfl⟩

theorem Full.app_no {L : Lg} {c : Nat} (h : Full L c) (rec : List UInt8) (h1 : 1 ≤ rec.length) (h2 : rec.length ≤ 4096) (hroom : ¬ L.nx + layLen L.nx (cnt rec.length) ≤ 32) : L.app 32 rec = (L, 0, 5) := by
  unfold Lg.app
  rw [if_neg (by omega), if_neg (by rw [h.fz]; decide), if_pos (by omega)]

theorem Full.scan {L : Lg} {c : Nat} (h : Full L c) : (stepTo L.D.pgs 32 32).recs.length = c := by
  obtain ⟨new, l1, l2, l3⟩ := h.li
  obtain ⟨n', s', g1, g2⟩ := cur_good l1
  rw [(scan_good g1 (by decide)).1, g2]
  exact l3

theorem Full.append {w W : World} {g d m1 m2 : Nat} {L : Lg} {c : Nat} (h : Full L c) {l : List Nat} {F : Nat → Option Obj} (hL : LS w W g d m1 m2 L l F) (s : ByteArray) (hs : s.size < 1000000) :
    Calls Try.prog 75 #[.pointer (some ⟨g, 0, none⟩), .string s] W fun r w' => r = .returned (.tuple #[.int .i64 ((L.app 32 s.data.toList).2.1 : Nat), .int .i64 ((L.app 32 s.data.toList).2.2 : Nat)]) ∧ LS w w' g d m1 m2 (L.app 32 s.data.toList).1 l F :=
  append_any hL h.ok 32 h.size 32 rfl h.le (by have := h.len; have := h.nx; have := h.le; omega) s hs

set_option maxRecDepth 100000 in
set_option maxHeartbeats 4000000 in
theorem segFull_walk (n0 : Nat) (b0 : n0 < 65536) (w : World) :
    Calls Try.prog 25 #[.int .u16 n0] w fun r w' => r = .returned (.bool true) ∧ Below w.heap.size w w' := by
  have A := Lib.hid (fun W => awake19 W)
  have N := Lib.hid (fun W (hb : Below w.heap.size w W) => fresh_new 32 (by decide) (by decide) hb)
  go_enter Try.func25, Try.ntmps25
  go_wp2_with fail
  refine (A.out _).mono ?_
  rintro r w1 ⟨rfl, hb⟩
  go_wp2_with fail
  refine (N.out _ hb).mono ?_
  rintro r w2 ⟨d, m1, m2, D, rfl, hD, hS⟩
  have O := Lib.hid (fresh_open hS 32 hD (by decide) (by decide))
  clear hS N A hb hD
  go_wp2_with fail
  refine O.out.mono ?_
  rintro r w3 ⟨ra, rc, g, E, rfl, hE, hL, -⟩
  have HL := Lib.hid hL
  have HF := Lib.hid (Full.new hE)
  clear hL hE O
  obtain ⟨n, hn, hn1, hn2⟩ : ∃ n : Nat, 1 + (n0 : Int) % 4096 = n ∧ 1 ≤ n ∧ n ≤ 4096 := ⟨1 + n0 % 4096, by omega, by omega, by omega⟩
  have hmk : (Instr.makeSlice 25 (.int .i64 (n : Nat)) (.int .i64 (n : Nat))).run Try.prog w3 = .ok (.slice (some ⟨w3.heap.size, 0, none⟩) n n) (w3.alloc (.cells (madeCells #[.int .u8 0] n) 5)) :=
    run_make_row' (P := Try.prog) 25 5 (.int .u8 0) 1 Try.underlying25 info5 rfl .i64 .i64 n (by omega) (by omega) w3
  have HMK := Lib.hid hmk
  have HN := Lib.hid hn
  clear hmk hn
  go_upto_region 6 with (fail)
  rw [HN.out]
  have hmk := HMK.out
  obtain ⟨big, hsz, hcv⟩ := zeros_big w3 n
  have HSZ := Lib.hid hsz
  have HBL := Lib.hid (show big.data.toList.length = n by rw [← hsz]; simp)
  clear hsz
  go_upto_region 7 with (fail)
  have HL := Lib.hid (HL.out.step ((Below.refl w3.heap.size w3).alloc (Nat.le_refl _) (.cells (madeCells #[.int .u8 0] n) 5)))
  clear hmk hcv HMK
  refine wp_gate (fun X => LS w X g d m1 m2 ⟨E, 1, 0, false⟩ [] (fun _ => none)) ⟨HL.out.ds, HL.out.lg, fun k hk => (by cases hk), fun hk => (by cases hk)⟩ ?_
  intro w4 hL
  clear HL
  have HL := Lib.hid hL
  clear hL
  go_wp2_with fail
  go_loopw [10, 11, 12, 41, 42, 43, 44, 45, 46, 47, 48, 49, 50, 51, 52, 53, 54, 55, 56, 57, 58] (fun a10 a11 a12 _ _ _ _ _ _ _ _ _ _ _ _ _ _ _ _ _ _ wr => ∃ (c e : Nat) (L : Lg), a10 = .int .i64 c ∧ a11 = .int .i64 (5 * e : Nat) ∧ a12 = .int .i64 (c + e : Nat) ∧ e ≤ 1 ∧ Full L c ∧ LS w wr g d m1 m2 L [] (fun _ => none)) (fun _ _ a12 _ _ _ _ _ _ _ _ _ _ _ _ _ _ _ _ _ _ _ => 40 - (intOf a12).toNat)
  case atStart => exact ⟨0, 0, _, rfl, rfl, rfl, by omega, HF.out, HL.out⟩
  case round =>
    obtain ⟨c, e, L, rfl, rfl, rfl, he, hF, hL⟩ := hrel
    have HL := Lib.hid hL
    have HF := Lib.hid hF
    have hnx := hF.nx
    have hle := hF.le
    clear hL hF
    by_cases he0 : e = 0
    · subst he0
      have hc40 : decide (((c + 0 : Nat) : Int) < 40) = true := by simp; omega
      have hc32 : c ≤ 32 := by omega
      by_cases hroom : L.nx + layLen L.nx (cnt n) ≤ 32
      · obtain ⟨f1, f2⟩ := HF.out.app_yes big.data.toList (by rw [HBL.out]; exact hn1) (by rw [HBL.out]; exact hn2) (by rw [HBL.out]; exact hroom)
        have AP := HF.out.append HL.out big (by rw [HSZ.out]; omega)
        rw [f2] at AP
        generalize L.app 32 big.data.toList = R at *
        have AP := Lib.hid AP
        have F1 := Lib.hid f1
        clear f1 f2 hroom
        go_wp2_with fail
        refine AP.out.mono ?_
        rintro r w5 ⟨rfl, hL⟩
        go_wp2_with fail
        exact ⟨⟨c + 1, 0, _, by simp, rfl, by simp, by omega, F1.out, hL⟩, by simp only [intOf]; omega⟩
      · have f1 := HF.out.app_no big.data.toList (by rw [HBL.out]; exact hn1) (by rw [HBL.out]; exact hn2) (by rw [HBL.out]; exact hroom)
        have AP := HF.out.append HL.out big (by rw [HSZ.out]; omega)
        rw [f1] at AP
        have AP := Lib.hid AP
        clear f1 hroom
        go_wp2_with fail
        refine AP.out.mono ?_
        rintro r w5 ⟨rfl, hL⟩
        go_wp2_with fail
        exact ⟨⟨c, 1, L, rfl, rfl, by simp, by omega, HF.out, hL⟩, by simp only [intOf]; omega⟩
    · have he1 : e = 1 := by omega
      subst he1
      clear he0 he
      have NX := Lib.hid (next_any HL.out.lg)
      have ND := Lib.hid (fun W => need_eq L.nx 1 (by omega) (by decide) (by decide) W)
      have hc1 : cnt 1 = 1 := rfl
      rw [hc1] at ND
      have hx : (⟨#[120]⟩ : ByteArray).data.toList = [120] := rfl
      have AP := HF.out.append HL.out ⟨#[120]⟩ (by decide)
      rw [hx] at AP
      have hll := layLen_le 1 L.nx
      have hlp := layLen_pos L.nx 1 (by decide)
      have h32 := Lib.hid (show (32 : Int) - ((32 : Int) - L.nx) = (L.nx : Int) by omega)
      go_wp2_with fail
      refine NX.out.mono ?_
      rintro r w5 ⟨rfl, rfl⟩
      by_cases hroom : L.nx + layLen L.nx 1 ≤ 32
      · obtain ⟨f1, f2⟩ := HF.out.app_yes [120] (by decide) (by decide) hroom
        rw [f2] at AP
        generalize L.app 32 [120] = R at *
        have AP := Lib.hid AP
        have F1 := Lib.hid f1
        have hrb : decide (((layLen L.nx 1 : Nat) : Int) ≤ 32 - (L.nx : Int)) = true := by simp; omega
        generalize layLen L.nx 1 = ll at *
        clear f1 f2 hx hc1
        go_wp2_with fail
        refine AP.out.mono ?_
        rintro r w6 ⟨rfl, hL⟩
        have SC := ls_scan hL F1.out.ok.down 32 F1.out.size (by decide) (by decide) (by have := F1.out.len; omega) 32 rfl
        rw [F1.out.scan] at SC
        have SC := Lib.hid SC
        clear hL AP
        go_wp2_with fail
        rw [h32.out]
        refine (ND.out _).mono ?_
        rintro r w7 ⟨rfl, rfl⟩
        go_wp2_with fail
        refine SC.out.mono ?_
        rintro r w8 ⟨rv, E2, rfl, hE, hL, -, hrow⟩
        obtain ⟨ra2, rc2, rfl⟩ := ownsRow_form hrow
        have FZ := frozen_any hL.lg
        rw [F1.out.fz] at FZ
        have FZ := Lib.hid FZ
        have HL := Lib.hid hL
        clear hL SC hrow
        go_wp2_with fail
        refine FZ.out.mono ?_
        rintro r w9 ⟨rfl, rfl⟩
        go_wp2_with fail
        go_ret
        exact ⟨rfl, HL.out.ds.below⟩
      · have f1 := HF.out.app_no [120] (by decide) (by decide) hroom
        rw [f1] at AP
        have AP := Lib.hid AP
        have hrb : decide (((layLen L.nx 1 : Nat) : Int) ≤ 32 - (L.nx : Int)) = false := by simp; omega
        generalize layLen L.nx 1 = ll at *
        clear f1 hx hc1
        go_wp2_with fail
        refine AP.out.mono ?_
        rintro r w6 ⟨rfl, hL⟩
        have SC := ls_scan hL HF.out.ok.down 32 HF.out.size (by decide) (by decide) (by have := HF.out.len; omega) 32 rfl
        rw [HF.out.scan] at SC
        have SC := Lib.hid SC
        clear hL AP
        go_wp2_with fail
        rw [h32.out]
        refine (ND.out _).mono ?_
        rintro r w7 ⟨rfl, rfl⟩
        go_wp2_with fail
        refine SC.out.mono ?_
        rintro r w8 ⟨rv, E2, rfl, hE, hL, -, hrow⟩
        obtain ⟨ra2, rc2, rfl⟩ := ownsRow_form hrow
        have FZ := frozen_any hL.lg
        rw [HF.out.fz] at FZ
        have FZ := Lib.hid FZ
        have HL := Lib.hid hL
        clear hL SC hrow
        go_wp2_with fail
        refine FZ.out.mono ?_
        rintro r w9 ⟨rfl, rfl⟩
        go_wp2_with fail
        go_ret
        exact ⟨rfl, HL.out.ds.below⟩
end Go.Proofs.Ytmaaljfcnnlnpaa
