/-
  The walk of the law SegLasts.
-/
import Derived.Test.YtmaaljfcnnlnpaaSegLaw4
import Derived.Deep.CutBlock
namespace Go.Proofs.Ytmaaljfcnnlnpaa
open Go.RowKit

theorem LS.drops {w W : World} {g d m1 m2 : Nat} {L : Lg} {a b : List Nat} {F : Nat → Option Obj} (h : LS w W g d m1 m2 L (a ++ b) F) : LS w W g d m1 m2 L b F :=
  ⟨h.ds.less (fun x hx => by
    rcases List.mem_cons.1 hx with rfl | hx
    · exact .head _
    · exact .tail _ (List.mem_append_right _ hx)), h.lg, fun k hk => h.st k (List.mem_append_right _ hk), fun hx => h.ng (List.mem_append_right _ hx)⟩

/-- Behind the act's copy. -/
structure LaT (w W : World) (g d m1 m2 P : Nat) (v : Value) (L : Lg) (ts : List (List UInt8)) (sure i sb act : Nat) (tx : ByteArray) (kv : Value) (nn : Nat) : Prop where
  las : Las P L ts sure i
  ls : LS w W g d m1 m2 L (sb :: rvl v) (fun k => W.heap[k]?)
  row : W.ownsRow w.heap.size 9 1 v ts.length (strC ts)
  le : ts.length ≤ i
  k0 : W.cell? ⟨sb, 0, none⟩ = some (.int .u8 act)
  k1 : W.cell? ⟨sb, 1, none⟩ = some (.string tx)
  k2 : W.cell? ⟨sb, 2, none⟩ = some kv
  k3 : W.cell? ⟨sb, 3, none⟩ = some (.int .u8 nn)

theorem LaS.copy {w W : World} {g d m1 m2 P : Nat} {v : Value} {L : Lg} {ts : List (List UInt8)} {sure i : Nat} (h : LaS w W g d m1 m2 P v L ts sure i) (act : Nat) (tx : ByteArray) (kv : Value) (nn : Nat) :
    LaT w (W.alloc (.cells #[.int .u8 act, .string tx, kv, .int .u8 nn] 125)) g d m1 m2 P v L ts sure i W.heap.size act tx kv nn := by
  have hb : Below W.heap.size W (W.alloc (.cells #[.int .u8 act, .string tx, kv, .int .u8 nn] 125)) := (Below.refl _ _).alloc (Nat.le_refl _) _
  have h0 := h.ls.addNew hb W.heap.size (Nat.le_refl _) (by simp)
  exact ⟨h.las, ⟨h0.ds, h0.lg, fun _ _ => rfl, h0.ng⟩, h.row.alloc _, h.le, by rw [World.cell?_alloc_new]; rfl, by rw [World.cell?_alloc_new]; rfl, by rw [World.cell?_alloc_new]; rfl, by rw [World.cell?_alloc_new]; rfl⟩

/-- The copy may be forgotten. -/
theorem LS.copyOff {w W : World} {g d m1 m2 : Nat} {L : Lg} {l : List Nat} {F F' : Nat → Option Obj} {sb : Nat} (h : LS w W g d m1 m2 L (sb :: l) F) (hF : ∀ k ∈ l, W.heap[k]? = F' k) : LS w W g d m1 m2 L l F' :=
  ⟨h.ds.less (fun x hx => by
    rcases List.mem_cons.1 hx with rfl | hx
    · exact .head _
    · exact .tail _ (.tail _ hx)), h.lg, hF, fun hx => h.ng (.tail _ hx)⟩

theorem strSrc_one {W : World} {b : Nat} {tx : ByteArray} (h : W.cell? ⟨b, 0, none⟩ = some (.string tx)) : StrSrc W (.slice (some ⟨b, 0, none⟩) 1 1) 1 [.string tx] := by
  refine .inr ⟨_, _, rfl, rfl, fun j u hu => ?_, fun u hu => ?_⟩
  · match j with
    | 0 =>
      rw [addr_add]
      cases hu
      exact h
    | j + 1 => cases hu
  · obtain rfl : u = .string tx := by simpa using hu
    rfl

theorem LaS.grew {w W X : World} {g d m1 m2 P : Nat} {L : Lg} {l : List Nat} {F : Nat → Option Obj} {ts : List (List UInt8)} {sure i : Nat} {tx : ByteArray} {g2 cap2 : Nat} (hz : Las P L (ts ++ [tx.data.toList]) sure (i + 1)) (hL : LS w W g d m1 m2 L l F) (hb : Below W.heap.size W X)
    (hrow : X.ownsRow w.heap.size 9 1 (.slice (some ⟨g2, 0, none⟩) (ts.length + 1) cap2) (ts.length + 1) (strC ts ++ [.string tx])) (hg2 : W.heap.size ≤ g2) (hle : ts.length ≤ i) :
    LaS w X g d m1 m2 P (.slice (some ⟨g2, 0, none⟩) (ts.length + 1) cap2) L (ts ++ [tx.data.toList]) sure (i + 1) := by
  have e : (ts ++ [tx.data.toList]).length = ts.length + 1 := by simp
  refine ⟨hz, hL.fresh hb g2 hg2 (ownsRow_ge hrow (by rfl)).2, ?_, by omega⟩
  rw [e, strC_snoc]
  exact hrow

set_option maxRecDepth 100000 in
set_option maxHeartbeats 16000000 in
theorem segLasts_walk (n0 : Nat) (b0 : n0 < 256) (v1 : Value) (w : World) (h1 : SasArg w v1) :
    Calls Try.prog 27 #[.int .u8 n0, v1] w fun r w' => r = .returned (.bool true) ∧ Below w.heap.size w w' := by
  obtain ⟨n, l, ha⟩ := h1
  obtain ⟨P, hP, h32, h80, h16⟩ : ∃ P : Nat, (16 : Int) * (2 + (n0 : Int) % 4) = (P : Int) ∧ 32 ≤ P ∧ P ≤ 80 ∧ P / 16 * 16 = P := ⟨16 * (2 + n0 % 4), by omega, by omega, by omega, by omega⟩
  have A := Lib.hid (fun W => awake19 W)
  have FW := Lib.hid (fun W (hb : Below w.heap.size w W) => few19 (ha.below hb))
  have N := Lib.hid (fun W (hb : Below w.heap.size w W) => fresh_new P (by omega) (by omega) hb)
  have HA := Lib.hid ha
  have HP := Lib.hid hP
  have H16 := Lib.hid h16
  clear hP h16
  obtain ⟨a0, cap0, rfl, hn, -⟩ := ha
  unfold maxLen at hn
  go_enter Try.func27, Try.ntmps27
  go_wp2_with fail
  refine (A.out _).mono ?_
  rintro r w1 ⟨rfl, hb1⟩
  go_wp2_with fail
  refine (FW.out _ hb1).mono ?_
  rintro r w2 ⟨⟨b, rfl, hb30⟩, rfl⟩
  have HB := Lib.hid hb1
  clear hb1 FW
  rcases Bool.eq_false_or_eq_true b with rfl | rfl
  · obtain ⟨hn30, hsm⟩ := hb30 rfl
    have HSM := Lib.hid hsm
    clear hb30 hsm hn
    go_wp2_with fail
    rw [HP.out]
    refine (N.out _ HB.out).mono ?_
    rintro r w3 ⟨d, m1, m2, D, rfl, hD, hS⟩
    have O := Lib.hid (fresh_open hS P hD (by omega) (by omega))
    clear hS N A hD HB
    go_wp2_with fail
    refine O.out.mono ?_
    rintro r w4 ⟨ra, rc, g, E, rfl, hE, hL, -⟩
    have HS0 : Hid (LaS w w4 g d m1 m2 P (.slice none 0 0) ⟨E, 1, 0, false⟩ [] 0 0) := Lib.hid ⟨Las.new hE (by omega), ⟨hL.ds, hL.lg, fun k hk => (by cases hk), fun hk => (by cases hk)⟩, World.ownsRow_nil _ _ _ _, Nat.le_refl _⟩
    clear hL hE O
    go_wp2_with fail
    go_loopw [7, 10, 11, 12, 13, 14, 15, 16, 17, 18, 19, 20, 21, 22, 23, 24, 25, 26, 27, 28, 29, 30, 31, 32, 33, 63, 64, 65, 66, 67, 68, 69, 70, 71, 72, 73, 74, 75, 76, 77, 78, 79, 80, 81, 82, 83, 84, 85, 86, 87, 88, 89, 90, 91, 92, 93, 94, 95, 96, 97, 98, 99, 100, 101, 102, 103, 104, 105, 106, 107, 108, 109, 110, 111, 112, 113, 114, 115, 116, 117, 118, 119, 120, 121, 122, 123, 124, 125, 126, 127, 128, 129, 130, 131, 132, 133, 134, 135, 136, 137, 138, 139, 140, 141, 142, 143, 144, 145, 146, 147, 148, 149, 150, 151, 152, 153, 154, 155, 156, 157, 158, 159, 160, 161, 162, 163, 164, 165, 166, 167, 168, 169, 170, 171, 172, 173, 174, 175, 176, 177, 178, 179, 180, 181, 182, 183, 184, 185, 186, 187, 188, 189, 190, 191, 192, 193, 194, 195, 196, 197, 198, 199, 200, 201, 202, 203, 204, 205, 206, 207, 208, 209, 210, 211, 212, 213, 214, 215, 216, 217, 218, 219, 220, 221, 222, 223, 224, 225, 226, 227] (fun a7 a10 a11 a12 _ _ _ _ _ _ _ _ _ _ _ _ _ _ _ _ _ _ _ _ _ _ _ _ _ _ _ _ _ _ _ _ _ _ _ _ _ _ _ _ _ _ _ _ _ _ _ _ _ _ _ _ _ _ _ _ _ _ _ _ _ _ _ _ _ _ _ _ _ _ _ _ _ _ _ _ _ _ _ _ _ _ _ _ _ _ _ _ _ _ _ _ _ _ _ _ _ _ _ _ _ _ _ _ _ _ _ _ _ _ _ _ _ _ _ _ _ _ _ _ _ _ _ _ _ _ _ _ _ _ _ _ _ _ _ _ _ _ _ _ _ _ _ _ _ _ _ _ _ _ _ _ _ _ _ _ _ _ _ _ _ _ _ _ _ _ _ _ _ _ _ _ _ _ _ _ _ _ _ _ _ _ _ _ _ _ wr => ∃ (i : Nat) (v : Value) (L : Lg) (ts : List (List UInt8)) (g sure : Nat), i ≤ n ∧ a12 = .int .i64 i ∧ a10 = v ∧ a11 = .int .i64 sure ∧ a7 = .pointer (some ⟨g, 0, none⟩) ∧ LaS w wr g d m1 m2 P v L ts sure i) (fun _ _ _ a12 _ _ _ _ _ _ _ _ _ _ _ _ _ _ _ _ _ _ _ _ _ _ _ _ _ _ _ _ _ _ _ _ _ _ _ _ _ _ _ _ _ _ _ _ _ _ _ _ _ _ _ _ _ _ _ _ _ _ _ _ _ _ _ _ _ _ _ _ _ _ _ _ _ _ _ _ _ _ _ _ _ _ _ _ _ _ _ _ _ _ _ _ _ _ _ _ _ _ _ _ _ _ _ _ _ _ _ _ _ _ _ _ _ _ _ _ _ _ _ _ _ _ _ _ _ _ _ _ _ _ _ _ _ _ _ _ _ _ _ _ _ _ _ _ _ _ _ _ _ _ _ _ _ _ _ _ _ _ _ _ _ _ _ _ _ _ _ _ _ _ _ _ _ _ _ _ _ _ _ _ _ _ _ _ _ _ _ => n - (intOf a12).toNat)
    case atStart => exact ⟨0, _, _, [], g, 0, by omega, rfl, rfl, rfl, rfl, HS0.out⟩
    case round =>
      obtain ⟨i, v, L, ts, g, sure, hi, rfl, rfl, rfl, rfl, hS⟩ := hrel
      have HS := Lib.hid hS
      clear hS HS0
      by_cases hlt : i < n
      · obtain ⟨a1, cap1, e1, _, h0 | ⟨b, o, rfl, hc⟩⟩ := HA.out
        · omega
        injection e1 with e1 _ e1c
        subst e1
        clear e1c
        have hc := hc i hlt
        have HC := Lib.hid hc
        have c0 : wr.cell? ⟨b, o + i * 4, none⟩ = some (.int .u8 (l i).act) := (hc.below HS.out.ls.ds.below).c0
        have c1 : wr.cell? ⟨b, o + i * 4 + 1, none⟩ = some (.string (l i).text) := (hc.below HS.out.ls.ds.below).c1
        have c2 : wr.cell? ⟨b, o + i * 4 + 2, none⟩ = some (l i).kv := (hc.below HS.out.ls.ds.below).c2
        have c3 : wr.cell? ⟨b, o + i * 4 + 3, none⟩ = some (.int .u8 (l i).n) := (hc.below HS.out.ls.ds.below).c3
        have hact := hc.act
        have hkn := hc.n
        have hi100 : i ≤ 100 := by omega
        clear hc
        have hi0 : (0 : Int) ≤ (i : Int) := by omega
        have hi1 : (i : Int) < (n : Int) := by omega
        obtain ⟨ka, kcap, hkv, _⟩ := HC.out.keep
        rw [hkv] at c2
        have HKP : Hid (KeepAt w (.slice ka (l i).kn kcap) (l i).kn (l i).ks) := Lib.hid (hkv ▸ HC.out.keep)
        have HTX : Hid ((l i).text.size ≤ 5000) := Lib.hid (HSM.out i hlt).1
        clear hkv HC
        generalize (l i).act = act at *
        generalize (l i).n = nn at *
        generalize (l i).kn = kn at *
        generalize (l i).ks = ks at *
        generalize (l i).text = tx at *
        go_upto_region 13 with fail
        refine wp_gate (fun X => LaT w X g d m1 m2 P u10 L ts sure i wr.heap.size act tx (.slice ka kn kcap) nn) (HS.out.copy _ _ _ _) ?_
        intro w5 hT
        clear HS c0 c1 c2 c3
        have HT := Lib.hid hT
        have k0 := hT.k0
        clear hT
        generalize wr.heap.size = sb at *
        go_upto_block 2 with fail
        go_cut [7, 10, 11] from 63 to 227 (fun s7 s10 s11 wc => ∃ (v' : Value) (L' : Lg) (ts' : List (List UInt8)) (g' sure' : Nat), s7 = .pointer (some ⟨g', 0, none⟩) ∧ s10 = v' ∧ s11 = .int .i64 (sure' : Nat) ∧ LaS w wc g' d m1 m2 P v' L' ts' sure' (i + 1))
        case rest =>
          as_aux_lemma =>
            obtain ⟨v', L', ts', g', sure', rfl, rfl, rfl, hS⟩ := hcut
            have HS := Lib.hid hS
            clear hS HT HKP HTX k0
            have SC := ls_scan HS.out.ls HS.out.las.ok.down P HS.out.las.size h32 (by omega) (by have := HS.out.las.len; omega) P H16.out
            have hsc := HS.out.las.scan (by omega)
            have hrl : (stepTo L'.D.pgs P P).recs.length = ts'.length := by rw [← hsc, List.length_map]
            have HBG : Hid (Begin (stepTo L'.D.pgs P P).recs ts') := Lib.hid ⟨[], by rw [hsc, List.append_nil]⟩
            have HTL : Hid (ts'.length ≤ 100000) := Lib.hid (by have := HS.out.le; omega)
            rw [hrl] at SC
            have HRW := Lib.hid HS.out.row
            generalize stepTo L'.D.pgs P P = st at *
            have SC := Lib.hid SC
            have HRL := Lib.hid hrl
            clear hsc hrl
            go_wp2_with fail
            refine SC.out.mono ?_
            rintro r w6 ⟨rv, E2, rfl, hE, hL, hst, hrow⟩
            have HRW := Lib.hid (ownsRow_stays HRW.out hst)
            have BG := Lib.hid (begins_yes hrow HRL.out.symm HRW.out rfl HBG.out (by rw [HRL.out]; exact HTL.out))
            have HS2 : Hid (∀ X, Below w6.heap.size w6 X → LaS w X g' d m1 m2 P u10 { L' with D := E2 } ts' sure' (i + 1)) := Lib.hid fun X hX => by
              have h0 := (LS.drops hL).step hX
              exact ⟨HS.out.las.like hE, ⟨h0.ds, h0.lg, fun _ _ => rfl, h0.ng⟩, ownsRow_of_block HRW.out (fun g hg => hX.block g (ownsRow_ge HRW.out hg).2), HS.out.le⟩
            obtain ⟨ra2, rc2, rfl⟩ := ownsRow_form hrow
            obtain ⟨ra3, rc3, hv3⟩ := ownsRow_form HRW.out
            rw [hv3] at BG HS2 ⊢
            clear hL SC hrow hst HRW HS HBG HRL
            go_wp2_with fail
            refine BG.out.mono ?_
            rintro r w7 ⟨rfl, hb⟩
            go_wp2_with fail
            exact ⟨⟨i + 1, _, _, ts', g', sure', by omega, by simp, rfl, rfl, rfl, HS2.out _ hb⟩, by simp only [intOf]; omega⟩
        case first =>
          have hlen := HT.out.las.len
          by_cases h5 : act % 8 = 5
          · have h5b : (((act : Int) % 8) == 5) = true := by rw [beq_iff_eq]; omega
            obtain ⟨q1, q2⟩ := HT.out.las.sync
            have SY := Lib.hid (lsync_any HT.out.ls HT.out.las.ok (by rw [HT.out.las.size]; omega))
            have hle := HT.out.le
            obtain ⟨ra3, rc3, hv3⟩ := ownsRow_form HT.out.row
            generalize L.sync = R at *
            obtain ⟨L', e⟩ := R
            dsimp only at q1 q2
            have Q1 := Lib.hid q1
            have Q2 := Lib.hid q2
            clear q1 q2 h5 k0 hlen
            rw [hv3] at HT SY ⊢
            go_wp2_with fail
            refine SY.out.mono ?_
            rintro r w6 ⟨rfl, hL⟩
            have HS' : Hid (∀ sure', Las P L' ts sure' (i + 1) → LaS w w6 g d m1 m2 P (.slice ra3 ts.length rc3) L' ts sure' (i + 1)) := Lib.hid fun _ hz => ⟨hz, LS.copyOff hL (fun k hk => rfl), ownsRow_stays HT.out.row (fun k hk => hL.st k (.tail _ hk)), by omega⟩
            clear hL SY HT h5b
            by_cases he : e = 0
            · subst he
              go_wp2_with fail
              go_meet
              case rel => exact ⟨_, L', ts, g, ts.length, rfl, rfl, rfl, HS'.out _ (Q1.out (by trivial))⟩
            · have b0 : ((e : Int) == 0) = false := by rw [beq_eq_false_iff_ne]; omega
              go_wp2_with fail
              go_meet
              case rel => exact ⟨_, L', ts, g, sure, rfl, rfl, rfl, HS'.out _ (Q2.out he)⟩
          · have h5b : (((act : Int) % 8) == 5) = false := by rw [beq_eq_false_iff_ne]; omega
            by_cases h7 : act % 8 = 7
            · have h7b : (((act : Int) % 8) == 7) = true := by rw [beq_iff_eq]; omega
              obtain ⟨f, hf, hf1, hf2⟩ : ∃ f : Nat, (nn : Int) % 20 = f ∧ max (f : Int) (-1) = f ∧ f < 20 := ⟨nn % 20, by omega, by omega, by omega⟩
              have FU := ls_fuse HT.out.ls (f : Int)
              rw [hf1] at FU
              have FU := Lib.hid FU
              have HF := Lib.hid hf
              have k3 := HT.out.k3
              have F0 := Lib.hid (HT.out.las.fuse (f : Int) (by omega))
              clear hf hf1 h7 h5 k0 hlen
              go_wp2_with fail
              rw [HF.out]
              refine FU.out.mono ?_
              rintro r w6 ⟨rfl, hL⟩
              have HS' : Hid (LaS w w6 g d m1 m2 P u10 { L with D := { L.D with fuse := f } } ts sure (i + 1)) := Lib.hid ⟨F0.out, LS.copyOff hL (fun k hk => rfl), ownsRow_stays HT.out.row (fun k hk => hL.st k (.tail _ hk)), Nat.le_succ_of_le HT.out.le⟩
              clear hL FU HT h5b h7b F0 k3
              go_wp2_with fail
              go_meet
              case rel => exact ⟨_, _, ts, g, sure, rfl, rfl, rfl, HS'.out⟩
            · have h7b : (((act : Int) % 8) == 7) = false := by rw [beq_eq_false_iff_ne]; omega
              by_cases h6 : act % 8 = 6
              · as_aux_lemma =>
                  have h6b : (((act : Int) % 8) == 6) = true := by rw [beq_iff_eq]; omega
                  have k2 := HT.out.k2
                  have hle := HT.out.le
                  have HRW := Lib.hid HT.out.row
                  have HD0 : Hid (DS w w5 d m1 m2 L.D (rvl u10)) := Lib.hid (HT.out.ls.ds.less (fun x hx => .tail _ (.tail _ hx)))
                  obtain ⟨D3, hD3⟩ : ∃ D3 : Dk, ({ { { L.D.settled (kept kn ks) with down := true } with fuse := max (-1) (-1) } with down := false } : Dk) = D3 := ⟨_, rfl⟩
                  have HD3 := Lib.hid hD3
                  have CR := Lib.hid (ds_crash_arg HD0.out (by omega) (.slice ka kn kcap) kn ks HKP.out)
                  have BK : Back P D3 ts sure i := by rw [← hD3]; exact HT.out.las.crash hi100 (by omega) (by omega) (kept kn ks) _ rfl rfl HT.out.las.size rfl (show max (-1 : Int) (-1) = -1 by decide)
                  have HSZ := Lib.hid HT.out.las.size
                  have hdn : D3.down = false := by rw [← hD3]
                  have hsz : D3.size = P := by rw [← hD3]; exact HT.out.las.size
                  have hll : D3.loose = [] := by rw [← hD3]; rfl
                  obtain ⟨f1, f2, f3, f4⟩ := BK
                  obtain ⟨st, hst0⟩ : ∃ st, stepTo D3.pgs P P = st := ⟨_, rfl⟩
                  obtain ⟨mo, hmo0⟩ : ∃ mo, mostTo D3.pgs P = mo := ⟨_, rfl⟩
                  have SCF := Lib.hid (fun W E l (h : DS w W d m1 m2 E l) (hE : E.like D3) => scan_like h hE hdn hsz hll h32 (by omega) H16.out hst0 hmo0)
                  rw [hmo0] at f1
                  have OPF := Lib.hid (fun W E l (h : DS w W d m1 m2 E l) (hE : E.like D3) => open_like h hE hdn hsz hll h32 (by omega) H16.out hst0 hmo0 f1)
                  rw [hst0] at f2 f3
                  rw [hst0, hmo0] at f4
                  have F3 := Lib.hid f3
                  have F4 := Lib.hid f4
                  have hkt : st.recs.length ≤ ts.length := by obtain ⟨b, hb⟩ := f3; rw [hb, List.length_append, List.length_map]; omega
                  clear hD3 HT hdn hsz hll f1 f3 f4 hst0 hmo0 h5 h6 h7 k0 HD0 hlen
                  go_wp2_with fail
                  refine CR.out.mono ?_
                  rintro r w6 ⟨rfl, hS, hst⟩
                  have HRW := Lib.hid (ownsRow_stays HRW.out hst)
                  have FU := Lib.hid (ds_fuse hS (-1))
                  clear hS hst CR k2 h5b h6b h7b HKP
                  go_wp2_with fail
                  refine FU.out.mono ?_
                  rintro r w7 ⟨rfl, hS, hst⟩
                  have HRW := Lib.hid (ownsRow_stays HRW.out hst)
                  have OD := Lib.hid (ds_open_down hS rfl P HSZ.out h32 (by omega))
                  clear hS hst FU
                  go_wp2_with fail
                  refine OD.out.mono ?_
                  rintro r w8 ⟨rfl, hS, hst⟩
                  have HRW := Lib.hid (ownsRow_stays HRW.out hst)
                  have UP := Lib.hid (ds_up hS)
                  clear hS hst OD
                  go_wp2_with fail
                  refine UP.out.mono ?_
                  rintro r w9 ⟨rfl, hS, hst⟩
                  have HRW := Lib.hid (ownsRow_stays HRW.out hst)
                  have hS : DS w w9 d m1 m2 D3 (rvl u10) := by rw [← HD3.out]; exact hS
                  have SC := Lib.hid (SCF.out _ _ _ hS (Dk.like.refl _))
                  clear hS hst UP HD3
                  go_wp2_with fail
                  refine SC.out.mono ?_
                  rintro r w10 ⟨rv1, E1, rfl, hE1, hS, hst, hrow1⟩
                  have HRW := Lib.hid (ownsRow_stays HRW.out hst)
                  have HR1 := Lib.hid hrow1
                  have SC := Lib.hid (SCF.out _ _ _ hS hE1)
                  clear hS hst hrow1 hE1
                  go_wp2_with fail
                  refine SC.out.mono ?_
                  rintro r w11 ⟨rv2, E2, rfl, hE2, hS, hst, hrow2⟩
                  have HRW := Lib.hid (ownsRow_stays HRW.out (fun k hk => hst k (List.mem_append_right _ hk)))
                  have HR1 := ownsRow_stays HR1.out (fun k hk => hst k (List.mem_append_left _ hk))
                  have BG := Lib.hid (begins_yes HR1 rfl HRW.out rfl F3.out (by omega))
                  have OP := Lib.hid (fun X (hX : Below w11.heap.size w11 X) => OPF.out X _ _ (hS.step hX).1 hE2)
                  have HRX := Lib.hid (fun X (hX : Below w11.heap.size w11 X) => ownsRow_of_block HRW.out (fun g hg => hX.block g (ownsRow_ge HRW.out hg).2))
                  obtain ⟨r1, q1, rfl⟩ := ownsRow_form HR1
                  obtain ⟨r2, q2, rfl⟩ := ownsRow_form hrow2
                  have hsb : decide ((st.recs.length : Int) < (sure : Int)) = false := by simp; omega
                  clear hS hst hrow2 hE2 HR1 SC SCF OPF HRW
                  go_wp2_with fail
                  refine BG.out.mono ?_
                  rintro r w12 ⟨rfl, hb⟩
                  have OP := Lib.hid (OP.out _ hb)
                  have HRW := Lib.hid (HRX.out _ hb)
                  clear hb BG HRX
                  go_wp2_with fail
                  refine OP.out.mono ?_
                  rintro r w13 ⟨rv3, g2, E3, rfl, hE3, hL, hst, hrow3⟩
                  have HRW := Lib.hid (ownsRow_stays HRW.out (fun k hk => hst k (List.mem_append_right _ (List.mem_append_right _ hk))))
                  obtain ⟨r3, q3, rfl⟩ := ownsRow_form hrow3
                  have NX := Lib.hid (next_any hL.lg)
                  have HL := Lib.hid hL
                  have F4 := Lib.hid (F4.out _ hE3)
                  clear hL hst hrow3 hE3 OP
                  go_wp2_with fail
                  refine NX.out.mono ?_
                  rintro r w14 ⟨rfl, rfl⟩
                  clear NX
                  go_upto_region 34 with fail
                  have HBS := Lib.hid HL.out.ds.below.size
                  have HBA := Lib.hid (show Below w13.heap.size w13 (w13.alloc (.cells #[] 9)) from (Below.refl _ _).alloc (Nat.le_refl _) _)
                  have HKT := Lib.hid hkt
                  obtain ⟨bb, hbb⟩ := F3.out
                  have HML : Hid ((st.recs.map Prod.snd).length = st.recs.length) := Lib.hid (List.length_map _)
                  have HE0 := Lib.hid (empty_row w13 w.heap.size HBS.out)
                  rcases HRW.out.2 with ⟨e1, e2⟩ | ⟨gv, capv, cur, e1, _, _, hcapv, _⟩
                  · have hk0 : st.recs.length = 0 := by omega
                    have hm0 : st.recs.map Prod.snd = [] := List.eq_nil_of_length_eq_zero (by rw [HML.out, hk0])
                    have HM0 := Lib.hid hm0
                    have hts : ts.length = 0 := e2
                    have HK0 := Lib.hid hk0
                    have HKX := Lib.hid (show ((st.recs.length : Nat) : Int) = 0 by rw [hk0]; rfl)
                    subst e1
                    clear e2 hm0 hbb hkt hts
                    go_upto_region 35 with (refine wpList_app_str (by rfl) _ _ (by rfl) HE0.out (.inl ⟨rfl, rfl, rfl⟩) (by rfl) (by rfl) (by omega) (Nat.le_trans HBS.out (by simp)) ?_; intro g3 cap3 w15 ho hg hl)
                    have HS' : Hid (LaS w w15 g2 d m1 m2 P (.slice (some ⟨g3, 0, none⟩) 0 cap3) ⟨E3, mo + 1, st.next, false⟩ (st.recs.map Prod.snd) 0 (i + 1)) := Lib.hid (LaS.cut (by have h4 := F4.out; rw [HK0.out] at h4; exact h4) HL.out (below_grown HBA.out hg (Nat.le_refl _) (Nat.le_refl _)) (by rw [HML.out, HK0.out]) (by rw [HM0.out]; exact ho) (hl.elim (fun e => e ▸ Nat.le_refl _) (fun e => e ▸ HBA.out.size)) (by rw [HML.out, HK0.out]; exact Nat.zero_le _))
                    clear ho hg hl HL F4 HRW HBA HE0 HM0 HK0 HKX HML
                    go_wp2_with fail
                    go_meet
                    case rel => exact ⟨_, _, _, g2, 0, rfl, rfl, rfl, HS'.out⟩
                  · subst e1
                    have hsrc : StrSrc (w13.alloc (.cells #[] 9)) (.slice (some ⟨gv, 0, none⟩) st.recs.length capv) st.recs.length (strC (st.recs.map Prod.snd)) := by
                      refine .inr ⟨_, _, rfl, by simp [strC], fun j u hu => ?_, strC_one _⟩
                      rw [addr_add, Nat.zero_add]
                      refine (HBA.out.cell (p := ⟨gv, j, none⟩) (ownsRow_ge HRW.out (by rfl)).2).trans (own_cell HRW.out j u ?_)
                      rw [hbb]
                      unfold strC at hu ⊢
                      rw [List.map_append, List.getElem?_append_left (List.getElem?_eq_some_iff.1 hu).1]
                      exact hu
                    have HSRC := Lib.hid hsrc
                    have hkc : st.recs.length ≤ capv := by omega
                    clear hbb hsrc
                    go_upto_region 35 with (refine wpList_app_str (by rfl) _ _ (by rfl) HE0.out HSRC.out (by rfl) (by rfl) (by omega) (Nat.le_trans HBS.out (by simp)) ?_; intro g3 cap3 w15 ho hg hl)
                    simp only [Nat.zero_add, List.nil_append] at ho
                    have HS' : Hid (LaS w w15 g2 d m1 m2 P (.slice (some ⟨g3, 0, none⟩) st.recs.length cap3) ⟨E3, mo + 1, st.next, false⟩ (st.recs.map Prod.snd) st.recs.length (i + 1)) := Lib.hid (LaS.cut F4.out HL.out (below_grown HBA.out hg (Nat.le_refl _) (Nat.le_refl _)) HML.out.symm ho (hl.elim (fun e => e ▸ Nat.le_refl _) (fun e => e ▸ HBA.out.size)) (by rw [HML.out]; omega))
                    clear ho hg hl HL F4 HRW HBA HE0 HML HSRC
                    go_wp2_with fail
                    go_meet
                    case rel => exact ⟨_, _, _, g2, st.recs.length, rfl, rfl, rfl, HS'.out⟩
              · have h6b : (((act : Int) % 8) == 6) = false := by rw [beq_eq_false_iff_ne]; omega
                have k1 := HT.out.k1
                obtain ⟨q1, q2⟩ := HT.out.las.app hi100 tx.data.toList
                have AP := Lib.hid (append_any HT.out.ls HT.out.las.ok P HT.out.las.size P H16.out HT.out.las.le (by have := HT.out.las.len; omega) tx (by have := HTX.out; omega))
                have hle := HT.out.le
                have hsn := Lib.hid (strC_snoc ts tx)
                generalize L.app P tx.data.toList = R at *
                obtain ⟨L', at_, e⟩ := R
                dsimp only at q1 q2
                have Q1 := Lib.hid q1
                have Q2 := Lib.hid q2
                clear q1 q2 h5 h6 h7 k0 hlen
                go_wp2_with fail
                refine AP.out.mono ?_
                rintro r w6 ⟨rfl, hL⟩
                have HRW := Lib.hid (ownsRow_stays HT.out.row (fun k hk => hL.st k (.tail _ hk)))
                have hk1 : w6.cell? ⟨sb, 1, none⟩ = some (.string tx) := (World.cell?_of_block (a := ⟨sb, 1, none⟩) (hL.st sb (.head _))).trans k1
                have HL := Lib.hid hL
                clear hL AP HT k1 h5b h6b h7b
                by_cases he : e = 0
                · subst he
                  have Q3 := Lib.hid (Q1.out rfl)
                  clear Q1 Q2
                  go_upto_region 16 with fail
                  as_aux_lemma =>
                    have HB6 := Lib.hid HL.out.ds.below.size
                    have HSB := Lib.hid (HL.out.lt (.head _))
                    refine wp_region_any (by kernel_rfl) ?_
                    change wpAny _ _ _ _ _ _ _ w6.drew
                    have HB0 := Lib.hid (show Below w6.heap.size w6 w6.drew from (Below.refl _ _).drew)
                    generalize w6.drew = X0 at *
                    refine wpAny_take (i := 1) (v := u10) rfl (by kernel_rfl) (by kernel_rfl) (by kernel_rfl) (fun _ _ _ h => h) (Or.inl ⟨by rfl, by intro w; go_simp⟩) ?_
                    simp only [Act.put, List.setIfInBounds_toArray, List.set_cons_zero, List.set_cons_succ]
                    refine wpAny_take (i := 3) (v := .pointer (some ⟨sb, 1, none⟩)) rfl (by kernel_rfl) (by kernel_rfl) (by kernel_rfl) (fun _ _ _ h => h) (Or.inl ⟨by rfl, by intro w; go_simp⟩) ?_
                    simp only [Act.put, List.setIfInBounds_toArray, List.set_cons_zero, List.set_cons_succ]
                    refine wpAny_ready (rs := [0, 4]) (by kernel_rfl) (by simp) ?_
                    refine AllReady.cons rfl (fun K hK => ?_) (AllReady.cons rfl (fun K hK => ?_) AllReady.nil)
                    · go_simp
                      refine hK _ _ ?_
                      clear hK K
                      have HE := Lib.hid (empty_row X0 w.heap.size (Nat.le_trans HB6.out HB0.out.size))
                      have HEg := Lib.hid (HB0.out.size)
                      have HB1 := Lib.hid (HB0.out.alloc HB0.out.size (.cells #[] 9))
                      generalize X0.heap.size = e0 at *
                      generalize X0.alloc (.cells #[] 9) = X1 at *
                      refine wpAny_ready (rs := [2, 4]) (by kernel_rfl) (by simp) ?_
                      refine AllReady.cons rfl (fun K hK => ?_) (AllReady.cons rfl (fun K hK => ?_) AllReady.nil)
                      · rw [if_pos (by rfl)]
                        refine wp_app_str _ _ (by rfl) HE.out (strSrc_row (ownsRow_of_block HRW.out (fun g hg => HB1.out.block g (ownsRow_ge HRW.out hg).2))) (by rfl) (by rfl) (by omega) (Nat.le_trans HB6.out HB1.out.size) ?_
                        intro g1 cap1 X2 ho hg hl
                        simp only [Nat.zero_add] at ho ⊢
                        rw [List.nil_append] at ho
                        simp only [Act.put, List.setIfInBounds_toArray, List.set_cons_zero, List.set_cons_succ]
                        refine hK _ _ ?_
                        clear hK K
                        have HB2 := Lib.hid (below_grown HB1.out hg HEg.out (Nat.le_refl _))
                        have HG1 := Lib.hid (show w6.heap.size ≤ g1 from hl.elim (fun e => e ▸ HEg.out) (fun e => e ▸ HB1.out.size))
                        have H87 := Lib.hid ho
                        clear ho hg hl HE
                        refine wpAny_ready (rs := [4]) (by kernel_rfl) (by simp) ?_
                        refine AllReady.cons rfl (fun K hK => ?_) AllReady.nil
                        have c16 : X2.cell? ⟨sb, 1, none⟩ = some (.string tx) := (HB2.out.cell (p := ⟨sb, 1, none⟩) HSB.out).trans hk1
                        go_simp
                        refine hK _ _ ?_
                        clear hK K c16
                        refine wpAny_ready (rs := [5]) (by kernel_rfl) (by simp) ?_
                        refine AllReady.cons rfl (fun K hK => ?_) AllReady.nil
                        go_simp
                        refine hK _ _ ?_
                        clear hK K
                        have HB3 := Lib.hid (HB2.out.alloc HB2.out.size (.cells #[.string tx] 9))
                        have HN := Lib.hid (show (X2.alloc (.cells #[.string tx] 9)).cell? ⟨X2.heap.size, 0, none⟩ = some (.string tx) ∧ X2.heap.size < (X2.alloc (.cells #[.string tx] 9)).heap.size from ⟨by rw [World.cell?_alloc_new]; rfl, by simp⟩)
                        have H87 := Lib.hid (H87.out.alloc (.cells #[.string tx] 9))
                        generalize X2.heap.size = b5 at *
                        generalize X2.alloc (.cells #[.string tx] 9) = X3 at *
                        refine wpAny_ready (rs := [6]) (by kernel_rfl) (by simp) ?_
                        refine AllReady.cons rfl (fun K hK => ?_) AllReady.nil
                        rw [if_pos (by rfl)]
                        refine wp_app_str _ _ (by rfl) H87.out (strSrc_one HN.out.1) (by rfl) (by rfl) (by omega) (Nat.le_trans HB6.out HB3.out.size) ?_
                        intro g2 cap2 X4 ho hg hl
                        simp only [Act.put, List.setIfInBounds_toArray, List.set_cons_zero, List.set_cons_succ]
                        refine hK _ _ ?_
                        clear hK K
                        have HS' : Hid (LaS w X4 g d m1 m2 P (.slice (some ⟨g2, 0, none⟩) (ts.length + 1) cap2) L' (ts ++ [tx.data.toList]) sure (i + 1)) := Lib.hid (LaS.grew Q3.out HL.out (below_grown HB3.out hg HG1.out (Nat.le_refl _)) ho (hl.elim (fun e => e ▸ HG1.out) (fun e => e ▸ HB3.out.size)) hle)
                        clear ho hg hl H87 HN
                        refine wpAny_ready (rs := [7]) (by kernel_rfl) (by simp) ?_
                        refine AllReady.cons rfl (fun K hK => ?_) AllReady.nil
                        go_simp
                        refine hK _ _ ?_
                        clear hK K
                        refine wpAny_done (by kernel_rfl) ?_ _
                        go_wp2_with fail
                        go_meet
                        case rel => exact ⟨_, _, _, g, sure, rfl, rfl, rfl, HS'.out⟩
                      · have c16 : X1.cell? ⟨sb, 1, none⟩ = some (.string tx) := (HB1.out.cell (p := ⟨sb, 1, none⟩) HSB.out).trans hk1
                        go_simp
                        refine hK _ _ ?_
                        clear hK K c16
                        refine wpAny_ready (rs := [2, 5]) (by kernel_rfl) (by simp) ?_
                        refine AllReady.cons rfl (fun K hK => ?_) (AllReady.cons rfl (fun K hK => ?_) AllReady.nil)
                        · rw [if_pos (by rfl)]
                          refine wp_app_str _ _ (by rfl) HE.out (strSrc_row (ownsRow_of_block HRW.out (fun g hg => HB1.out.block g (ownsRow_ge HRW.out hg).2))) (by rfl) (by rfl) (by omega) (Nat.le_trans HB6.out HB1.out.size) ?_
                          intro g1 cap1 X2 ho hg hl
                          simp only [Nat.zero_add] at ho ⊢
                          rw [List.nil_append] at ho
                          simp only [Act.put, List.setIfInBounds_toArray, List.set_cons_zero, List.set_cons_succ]
                          refine hK _ _ ?_
                          clear hK K
                          have HB2 := Lib.hid (below_grown HB1.out hg HEg.out (Nat.le_refl _))
                          have HG1 := Lib.hid (show w6.heap.size ≤ g1 from hl.elim (fun e => e ▸ HEg.out) (fun e => e ▸ HB1.out.size))
                          have H87 := Lib.hid ho
                          clear ho hg hl HE
                          refine wpAny_ready (rs := [5]) (by kernel_rfl) (by simp) ?_
                          refine AllReady.cons rfl (fun K hK => ?_) AllReady.nil
                          go_simp
                          refine hK _ _ ?_
                          clear hK K
                          have HB3 := Lib.hid (HB2.out.alloc HB2.out.size (.cells #[.string tx] 9))
                          have HN := Lib.hid (show (X2.alloc (.cells #[.string tx] 9)).cell? ⟨X2.heap.size, 0, none⟩ = some (.string tx) ∧ X2.heap.size < (X2.alloc (.cells #[.string tx] 9)).heap.size from ⟨by rw [World.cell?_alloc_new]; rfl, by simp⟩)
                          have H87 := Lib.hid (H87.out.alloc (.cells #[.string tx] 9))
                          generalize X2.heap.size = b5 at *
                          generalize X2.alloc (.cells #[.string tx] 9) = X3 at *
                          refine wpAny_ready (rs := [6]) (by kernel_rfl) (by simp) ?_
                          refine AllReady.cons rfl (fun K hK => ?_) AllReady.nil
                          rw [if_pos (by rfl)]
                          refine wp_app_str _ _ (by rfl) H87.out (strSrc_one HN.out.1) (by rfl) (by rfl) (by omega) (Nat.le_trans HB6.out HB3.out.size) ?_
                          intro g2 cap2 X4 ho hg hl
                          simp only [Act.put, List.setIfInBounds_toArray, List.set_cons_zero, List.set_cons_succ]
                          refine hK _ _ ?_
                          clear hK K
                          have HS' : Hid (LaS w X4 g d m1 m2 P (.slice (some ⟨g2, 0, none⟩) (ts.length + 1) cap2) L' (ts ++ [tx.data.toList]) sure (i + 1)) := Lib.hid (LaS.grew Q3.out HL.out (below_grown HB3.out hg HG1.out (Nat.le_refl _)) ho (hl.elim (fun e => e ▸ HG1.out) (fun e => e ▸ HB3.out.size)) hle)
                          clear ho hg hl H87 HN
                          refine wpAny_ready (rs := [7]) (by kernel_rfl) (by simp) ?_
                          refine AllReady.cons rfl (fun K hK => ?_) AllReady.nil
                          go_simp
                          refine hK _ _ ?_
                          clear hK K
                          refine wpAny_done (by kernel_rfl) ?_ _
                          go_wp2_with fail
                          go_meet
                          case rel => exact ⟨_, _, _, g, sure, rfl, rfl, rfl, HS'.out⟩
                        · go_simp
                          refine hK _ _ ?_
                          clear hK K
                          have HB2 := Lib.hid (HB1.out.alloc HB1.out.size (.cells #[.string tx] 9))
                          have HN := Lib.hid (show (X1.alloc (.cells #[.string tx] 9)).cell? ⟨X1.heap.size, 0, none⟩ = some (.string tx) ∧ X1.heap.size < (X1.alloc (.cells #[.string tx] 9)).heap.size from ⟨by rw [World.cell?_alloc_new]; rfl, by simp⟩)
                          have HNE := Lib.hid (show X1.heap.size ≠ e0 from fun e => Nat.lt_irrefl _ (e ▸ (ownsRow_ge HE.out (by rfl)).2))
                          have HE := Lib.hid (HE.out.alloc (.cells #[.string tx] 9))
                          generalize X1.heap.size = b5 at *
                          generalize X1.alloc (.cells #[.string tx] 9) = X2 at *
                          refine wpAny_ready (rs := [2]) (by kernel_rfl) (by simp) ?_
                          refine AllReady.cons rfl (fun K hK => ?_) AllReady.nil
                          rw [if_pos (by rfl)]
                          refine wp_app_str _ _ (by rfl) HE.out (strSrc_row (ownsRow_of_block HRW.out (fun g hg => HB2.out.block g (ownsRow_ge HRW.out hg).2))) (by rfl) (by rfl) (by omega) (Nat.le_trans HB6.out HB2.out.size) ?_
                          intro g1 cap1 X3 ho hg hl
                          simp only [Nat.zero_add] at ho ⊢
                          rw [List.nil_append] at ho
                          simp only [Act.put, List.setIfInBounds_toArray, List.set_cons_zero, List.set_cons_succ]
                          refine hK _ _ ?_
                          clear hK K
                          have HB3 := Lib.hid (below_grown HB2.out hg HEg.out (Nat.le_refl _))
                          have HG1 := Lib.hid (show w6.heap.size ≤ g1 from hl.elim (fun e => e ▸ HEg.out) (fun e => e ▸ HB2.out.size))
                          have H87 := Lib.hid ho
                          have HN := Lib.hid (show X3.cell? ⟨b5, 0, none⟩ = some (.string tx) ∧ b5 < X3.heap.size from ⟨(hg.cell_far ⟨b5, 0, none⟩ HN.out.2 (fun e => HNE.out (by injection e))).trans HN.out.1, Nat.lt_of_lt_of_le HN.out.2 hg.size⟩)
                          clear ho hg hl HE
                          refine wpAny_ready (rs := [6]) (by kernel_rfl) (by simp) ?_
                          refine AllReady.cons rfl (fun K hK => ?_) AllReady.nil
                          rw [if_pos (by rfl)]
                          refine wp_app_str _ _ (by rfl) H87.out (strSrc_one HN.out.1) (by rfl) (by rfl) (by omega) (Nat.le_trans HB6.out HB3.out.size) ?_
                          intro g2 cap2 X4 ho hg hl
                          simp only [Act.put, List.setIfInBounds_toArray, List.set_cons_zero, List.set_cons_succ]
                          refine hK _ _ ?_
                          clear hK K
                          have HS' : Hid (LaS w X4 g d m1 m2 P (.slice (some ⟨g2, 0, none⟩) (ts.length + 1) cap2) L' (ts ++ [tx.data.toList]) sure (i + 1)) := Lib.hid (LaS.grew Q3.out HL.out (below_grown HB3.out hg HG1.out (Nat.le_refl _)) ho (hl.elim (fun e => e ▸ HG1.out) (fun e => e ▸ HB3.out.size)) hle)
                          clear ho hg hl H87 HN
                          refine wpAny_ready (rs := [7]) (by kernel_rfl) (by simp) ?_
                          refine AllReady.cons rfl (fun K hK => ?_) AllReady.nil
                          go_simp
                          refine hK _ _ ?_
                          clear hK K
                          refine wpAny_done (by kernel_rfl) ?_ _
                          go_wp2_with fail
                          go_meet
                          case rel => exact ⟨_, _, _, g, sure, rfl, rfl, rfl, HS'.out⟩
                    · have c16 : X0.cell? ⟨sb, 1, none⟩ = some (.string tx) := (HB0.out.cell (p := ⟨sb, 1, none⟩) HSB.out).trans hk1
                      go_simp
                      refine hK _ _ ?_
                      clear hK K c16
                      refine wpAny_ready (rs := [0, 5]) (by kernel_rfl) (by simp) ?_
                      refine AllReady.cons rfl (fun K hK => ?_) (AllReady.cons rfl (fun K hK => ?_) AllReady.nil)
                      · go_simp
                        refine hK _ _ ?_
                        clear hK K
                        have HE := Lib.hid (empty_row X0 w.heap.size (Nat.le_trans HB6.out HB0.out.size))
                        have HEg := Lib.hid (HB0.out.size)
                        have HB1 := Lib.hid (HB0.out.alloc HB0.out.size (.cells #[] 9))
                        generalize X0.heap.size = e0 at *
                        generalize X0.alloc (.cells #[] 9) = X1 at *
                        refine wpAny_ready (rs := [2, 5]) (by kernel_rfl) (by simp) ?_
                        refine AllReady.cons rfl (fun K hK => ?_) (AllReady.cons rfl (fun K hK => ?_) AllReady.nil)
                        · rw [if_pos (by rfl)]
                          refine wp_app_str _ _ (by rfl) HE.out (strSrc_row (ownsRow_of_block HRW.out (fun g hg => HB1.out.block g (ownsRow_ge HRW.out hg).2))) (by rfl) (by rfl) (by omega) (Nat.le_trans HB6.out HB1.out.size) ?_
                          intro g1 cap1 X2 ho hg hl
                          simp only [Nat.zero_add] at ho ⊢
                          rw [List.nil_append] at ho
                          simp only [Act.put, List.setIfInBounds_toArray, List.set_cons_zero, List.set_cons_succ]
                          refine hK _ _ ?_
                          clear hK K
                          have HB2 := Lib.hid (below_grown HB1.out hg HEg.out (Nat.le_refl _))
                          have HG1 := Lib.hid (show w6.heap.size ≤ g1 from hl.elim (fun e => e ▸ HEg.out) (fun e => e ▸ HB1.out.size))
                          have H87 := Lib.hid ho
                          clear ho hg hl HE
                          refine wpAny_ready (rs := [5]) (by kernel_rfl) (by simp) ?_
                          refine AllReady.cons rfl (fun K hK => ?_) AllReady.nil
                          go_simp
                          refine hK _ _ ?_
                          clear hK K
                          have HB3 := Lib.hid (HB2.out.alloc HB2.out.size (.cells #[.string tx] 9))
                          have HN := Lib.hid (show (X2.alloc (.cells #[.string tx] 9)).cell? ⟨X2.heap.size, 0, none⟩ = some (.string tx) ∧ X2.heap.size < (X2.alloc (.cells #[.string tx] 9)).heap.size from ⟨by rw [World.cell?_alloc_new]; rfl, by simp⟩)
                          have H87 := Lib.hid (H87.out.alloc (.cells #[.string tx] 9))
                          generalize X2.heap.size = b5 at *
                          generalize X2.alloc (.cells #[.string tx] 9) = X3 at *
                          refine wpAny_ready (rs := [6]) (by kernel_rfl) (by simp) ?_
                          refine AllReady.cons rfl (fun K hK => ?_) AllReady.nil
                          rw [if_pos (by rfl)]
                          refine wp_app_str _ _ (by rfl) H87.out (strSrc_one HN.out.1) (by rfl) (by rfl) (by omega) (Nat.le_trans HB6.out HB3.out.size) ?_
                          intro g2 cap2 X4 ho hg hl
                          simp only [Act.put, List.setIfInBounds_toArray, List.set_cons_zero, List.set_cons_succ]
                          refine hK _ _ ?_
                          clear hK K
                          have HS' : Hid (LaS w X4 g d m1 m2 P (.slice (some ⟨g2, 0, none⟩) (ts.length + 1) cap2) L' (ts ++ [tx.data.toList]) sure (i + 1)) := Lib.hid (LaS.grew Q3.out HL.out (below_grown HB3.out hg HG1.out (Nat.le_refl _)) ho (hl.elim (fun e => e ▸ HG1.out) (fun e => e ▸ HB3.out.size)) hle)
                          clear ho hg hl H87 HN
                          refine wpAny_ready (rs := [7]) (by kernel_rfl) (by simp) ?_
                          refine AllReady.cons rfl (fun K hK => ?_) AllReady.nil
                          go_simp
                          refine hK _ _ ?_
                          clear hK K
                          refine wpAny_done (by kernel_rfl) ?_ _
                          go_wp2_with fail
                          go_meet
                          case rel => exact ⟨_, _, _, g, sure, rfl, rfl, rfl, HS'.out⟩
                        · go_simp
                          refine hK _ _ ?_
                          clear hK K
                          have HB2 := Lib.hid (HB1.out.alloc HB1.out.size (.cells #[.string tx] 9))
                          have HN := Lib.hid (show (X1.alloc (.cells #[.string tx] 9)).cell? ⟨X1.heap.size, 0, none⟩ = some (.string tx) ∧ X1.heap.size < (X1.alloc (.cells #[.string tx] 9)).heap.size from ⟨by rw [World.cell?_alloc_new]; rfl, by simp⟩)
                          have HNE := Lib.hid (show X1.heap.size ≠ e0 from fun e => Nat.lt_irrefl _ (e ▸ (ownsRow_ge HE.out (by rfl)).2))
                          have HE := Lib.hid (HE.out.alloc (.cells #[.string tx] 9))
                          generalize X1.heap.size = b5 at *
                          generalize X1.alloc (.cells #[.string tx] 9) = X2 at *
                          refine wpAny_ready (rs := [2]) (by kernel_rfl) (by simp) ?_
                          refine AllReady.cons rfl (fun K hK => ?_) AllReady.nil
                          rw [if_pos (by rfl)]
                          refine wp_app_str _ _ (by rfl) HE.out (strSrc_row (ownsRow_of_block HRW.out (fun g hg => HB2.out.block g (ownsRow_ge HRW.out hg).2))) (by rfl) (by rfl) (by omega) (Nat.le_trans HB6.out HB2.out.size) ?_
                          intro g1 cap1 X3 ho hg hl
                          simp only [Nat.zero_add] at ho ⊢
                          rw [List.nil_append] at ho
                          simp only [Act.put, List.setIfInBounds_toArray, List.set_cons_zero, List.set_cons_succ]
                          refine hK _ _ ?_
                          clear hK K
                          have HB3 := Lib.hid (below_grown HB2.out hg HEg.out (Nat.le_refl _))
                          have HG1 := Lib.hid (show w6.heap.size ≤ g1 from hl.elim (fun e => e ▸ HEg.out) (fun e => e ▸ HB2.out.size))
                          have H87 := Lib.hid ho
                          have HN := Lib.hid (show X3.cell? ⟨b5, 0, none⟩ = some (.string tx) ∧ b5 < X3.heap.size from ⟨(hg.cell_far ⟨b5, 0, none⟩ HN.out.2 (fun e => HNE.out (by injection e))).trans HN.out.1, Nat.lt_of_lt_of_le HN.out.2 hg.size⟩)
                          clear ho hg hl HE
                          refine wpAny_ready (rs := [6]) (by kernel_rfl) (by simp) ?_
                          refine AllReady.cons rfl (fun K hK => ?_) AllReady.nil
                          rw [if_pos (by rfl)]
                          refine wp_app_str _ _ (by rfl) H87.out (strSrc_one HN.out.1) (by rfl) (by rfl) (by omega) (Nat.le_trans HB6.out HB3.out.size) ?_
                          intro g2 cap2 X4 ho hg hl
                          simp only [Act.put, List.setIfInBounds_toArray, List.set_cons_zero, List.set_cons_succ]
                          refine hK _ _ ?_
                          clear hK K
                          have HS' : Hid (LaS w X4 g d m1 m2 P (.slice (some ⟨g2, 0, none⟩) (ts.length + 1) cap2) L' (ts ++ [tx.data.toList]) sure (i + 1)) := Lib.hid (LaS.grew Q3.out HL.out (below_grown HB3.out hg HG1.out (Nat.le_refl _)) ho (hl.elim (fun e => e ▸ HG1.out) (fun e => e ▸ HB3.out.size)) hle)
                          clear ho hg hl H87 HN
                          refine wpAny_ready (rs := [7]) (by kernel_rfl) (by simp) ?_
                          refine AllReady.cons rfl (fun K hK => ?_) AllReady.nil
                          go_simp
                          refine hK _ _ ?_
                          clear hK K
                          refine wpAny_done (by kernel_rfl) ?_ _
                          go_wp2_with fail
                          go_meet
                          case rel => exact ⟨_, _, _, g, sure, rfl, rfl, rfl, HS'.out⟩
                      · go_simp
                        refine hK _ _ ?_
                        clear hK K
                        have HB1 := Lib.hid (HB0.out.alloc HB0.out.size (.cells #[.string tx] 9))
                        have HN := Lib.hid (show (X0.alloc (.cells #[.string tx] 9)).cell? ⟨X0.heap.size, 0, none⟩ = some (.string tx) ∧ X0.heap.size < (X0.alloc (.cells #[.string tx] 9)).heap.size from ⟨by rw [World.cell?_alloc_new]; rfl, by simp⟩)
                        generalize X0.heap.size = b5 at *
                        generalize X0.alloc (.cells #[.string tx] 9) = X1 at *
                        refine wpAny_ready (rs := [0]) (by kernel_rfl) (by simp) ?_
                        refine AllReady.cons rfl (fun K hK => ?_) AllReady.nil
                        go_simp
                        refine hK _ _ ?_
                        clear hK K
                        have HE := Lib.hid (empty_row X1 w.heap.size (Nat.le_trans HB6.out HB1.out.size))
                        have HEg := Lib.hid (HB1.out.size)
                        have HB2 := Lib.hid (HB1.out.alloc HB1.out.size (.cells #[] 9))
                        have HNE := Lib.hid (show b5 ≠ X1.heap.size from Nat.ne_of_lt HN.out.2)
                        have HN := Lib.hid (show (X1.alloc (.cells #[] 9)).cell? ⟨b5, 0, none⟩ = some (.string tx) ∧ b5 < (X1.alloc (.cells #[] 9)).heap.size from ⟨(World.cell?_alloc_lt _ _ _ HN.out.2).trans HN.out.1, Nat.lt_of_lt_of_le HN.out.2 (by simp)⟩)
                        generalize X1.heap.size = e0 at *
                        generalize X1.alloc (.cells #[] 9) = X2 at *
                        refine wpAny_ready (rs := [2]) (by kernel_rfl) (by simp) ?_
                        refine AllReady.cons rfl (fun K hK => ?_) AllReady.nil
                        rw [if_pos (by rfl)]
                        refine wp_app_str _ _ (by rfl) HE.out (strSrc_row (ownsRow_of_block HRW.out (fun g hg => HB2.out.block g (ownsRow_ge HRW.out hg).2))) (by rfl) (by rfl) (by omega) (Nat.le_trans HB6.out HB2.out.size) ?_
                        intro g1 cap1 X3 ho hg hl
                        simp only [Nat.zero_add] at ho ⊢
                        rw [List.nil_append] at ho
                        simp only [Act.put, List.setIfInBounds_toArray, List.set_cons_zero, List.set_cons_succ]
                        refine hK _ _ ?_
                        clear hK K
                        have HB3 := Lib.hid (below_grown HB2.out hg HEg.out (Nat.le_refl _))
                        have HG1 := Lib.hid (show w6.heap.size ≤ g1 from hl.elim (fun e => e ▸ HEg.out) (fun e => e ▸ HB2.out.size))
                        have H87 := Lib.hid ho
                        have HN := Lib.hid (show X3.cell? ⟨b5, 0, none⟩ = some (.string tx) ∧ b5 < X3.heap.size from ⟨(hg.cell_far ⟨b5, 0, none⟩ HN.out.2 (fun e => HNE.out (by injection e))).trans HN.out.1, Nat.lt_of_lt_of_le HN.out.2 hg.size⟩)
                        clear ho hg hl HE
                        refine wpAny_ready (rs := [6]) (by kernel_rfl) (by simp) ?_
                        refine AllReady.cons rfl (fun K hK => ?_) AllReady.nil
                        rw [if_pos (by rfl)]
                        refine wp_app_str _ _ (by rfl) H87.out (strSrc_one HN.out.1) (by rfl) (by rfl) (by omega) (Nat.le_trans HB6.out HB3.out.size) ?_
                        intro g2 cap2 X4 ho hg hl
                        simp only [Act.put, List.setIfInBounds_toArray, List.set_cons_zero, List.set_cons_succ]
                        refine hK _ _ ?_
                        clear hK K
                        have HS' : Hid (LaS w X4 g d m1 m2 P (.slice (some ⟨g2, 0, none⟩) (ts.length + 1) cap2) L' (ts ++ [tx.data.toList]) sure (i + 1)) := Lib.hid (LaS.grew Q3.out HL.out (below_grown HB3.out hg HG1.out (Nat.le_refl _)) ho (hl.elim (fun e => e ▸ HG1.out) (fun e => e ▸ HB3.out.size)) hle)
                        clear ho hg hl H87 HN
                        refine wpAny_ready (rs := [7]) (by kernel_rfl) (by simp) ?_
                        refine AllReady.cons rfl (fun K hK => ?_) AllReady.nil
                        go_simp
                        refine hK _ _ ?_
                        clear hK K
                        refine wpAny_done (by kernel_rfl) ?_ _
                        go_wp2_with fail
                        go_meet
                        case rel => exact ⟨_, _, _, g, sure, rfl, rfl, rfl, HS'.out⟩
                · have b0 : ((e : Int) == 0) = false := by rw [beq_eq_false_iff_ne]; omega
                  have HS' : Hid (LaS w w6 g d m1 m2 P u10 L' ts sure (i + 1)) := Lib.hid ⟨Q2.out he, LS.copyOff HL.out (fun k hk => rfl), HRW.out, by omega⟩
                  go_wp2_with fail
                  go_meet
                  case rel => exact ⟨_, _, ts, g, sure, rfl, rfl, rfl, HS'.out⟩
      · have hke : i = n := by omega
        subst hke
        go_wp2_with fail
        go_ret
        exact ⟨rfl, HS.out.ls.ds.below⟩
  · go_wp2_with fail
    refine (A.out _).mono ?_
    rintro r w3 ⟨rfl, hb⟩
    go_wp2_with fail
    go_ret
    exact ⟨rfl, HB.out.trans (hb.mono HB.out.size)⟩
end Go.Proofs.Ytmaaljfcnnlnpaa
