/-
  The walks of a log's write and put.
-/
import Derived.Test.YtmaaljfcnnlnpaaSegWalk5
namespace Go.Proofs.Ytmaaljfcnnlnpaa
open Go.RowKit

/-- A log that is open. -/
structure Lg where
  D : Dk
  ep : Nat
  nx : Nat
  fz : Bool

def Lg.wr (L : Lg) (p : Pg) : Lg × Nat :=
  if L.D.fuse = 0 then ({ L with fz := true }, 6) else ({ L with D := L.D.burnt.wrote (L.nx : Int) (layB { p with ep := L.ep, nu := L.nx }), nx := L.nx + 1 }, 0)
def Lg.put (L : Lg) (p : Pg) : Lg × Nat :=
  if L.nx % 16 = 0 then (if (L.wr ⟨0, 0, 1, false, false, headB L.nx⟩).2 = 0 then (L.wr ⟨0, 0, 1, false, false, headB L.nx⟩).1.wr p else L.wr ⟨0, 0, 1, false, false, headB L.nx⟩) else L.wr p
def Lg.puts (L : Lg) : List Pg → Lg × Nat
  | [] => (L, 0)
  | p :: ps => if (L.put p).2 = 0 then (L.put p).1.puts ps else L.put p

/-- May a page be written at the next place? -/
structure Lg.ok (L : Lg) : Prop where
  down : L.D.down = false
  fuse : -1 ≤ L.D.fuse ∧ L.D.fuse ≤ 1000000
  len : L.D.loose.length ≤ 90000
  ep : L.ep < 4294967296
  nx : (L.nx : Int) ≤ L.D.size
  size : L.D.size ≤ 100000

/-- The log in memory, and blocks l that stand as they stood. -/
structure LS (w W : World) (g d m1 m2 : Nat) (L : Lg) (l : List Nat) (F : Nat → Option Obj) : Prop where
  ds : DS w W d m1 m2 L.D (g :: l)
  lg : LgAt W g d L.ep L.nx L.fz
  st : ∀ k ∈ l, W.heap[k]? = F k
  ng : g ∉ l

section
variable {w W : World} {g d m1 m2 : Nat} {L : Lg} {l : List Nat} {F : Nat → Option Obj}
theorem LS.lt (h : LS w W g d m1 m2 L l F) {k : Nat} (hk : k ∈ l) : k < W.heap.size := h.ds.dk.elim fun _ h => (h.2 k (.tail _ hk)).1
theorem LS.step {W' : World} (h : LS w W g d m1 m2 L l F) (hb : Below W.heap.size W W') : LS w W' g d m1 m2 L l F := ⟨(h.ds.step hb).1, h.lg.below hb, fun k hk => (hb.block k (h.lt hk)).trans (h.st k hk), h.ng⟩
theorem LS.disk {W' : World} {D' : Dk} (h : LS w W g d m1 m2 L l F) (hd : DS w W' d m1 m2 D' (g :: l)) (hs : Stays W W' (g :: l)) : LS w W' g d m1 m2 { L with D := D' } l F :=
  ⟨hd, h.lg.of_block (hs g (.head _)) (hd.dk.elim fun _ h => (h.2 g (.head _)).1), fun k hk => (hs k (.tail _ hk)).trans (h.st k hk), h.ng⟩

/-- One of the log's cells written. -/
theorem LS.cell (h : LS w W g d m1 m2 L l F) (j : Nat) (u : Value) : DS w (W.setCell ⟨g, j, none⟩ u) d m1 m2 L.D (g :: l) ∧
    (∀ i, i ≠ j → (W.setCell ⟨g, j, none⟩ u).cell? ⟨g, i, none⟩ = W.cell? ⟨g, i, none⟩) ∧ (∀ i, (W.setCell ⟨g, j, none⟩ u).frozen? ⟨g, i, none⟩ = false) ∧ g < (W.setCell ⟨g, j, none⟩ u).heap.size ∧ (∀ k ∈ l, (W.setCell ⟨g, j, none⟩ u).heap[k]? = F k) :=
  ⟨h.ds.turn (k := g) (.head _) (setCell_size _ _ _) (fun i hi => Below.heap_setCell W ⟨g, j, none⟩ u i hi) rfl rfl rfl,
    fun i hi => World.cell?_setCell_other _ _ _ _ (fun e => hi (by injection e with _ e2; exact e2.symm)), fun i => by rw [World.frozen?_setCell]; exact h.lg.fr i, by rw [setCell_size]; exact h.lg.lt,
    fun k hk => (Below.heap_setCell W ⟨g, j, none⟩ u k (fun (e : k = g) => h.ng (e ▸ hk))).trans (h.st k hk)⟩
theorem LS.setNx (h : LS w W g d m1 m2 L l F) (x : Nat) : LS w (W.setCell ⟨g, 2, none⟩ (.int .i64 (x : Int))) g d m1 m2 { L with nx := x } l F := by
  obtain ⟨k1, k2, k3, k4, k5⟩ := h.cell 2 (.int .i64 (x : Int))
  exact ⟨k1, ⟨(k2 0 (by decide)).trans h.lg.c0, (k2 1 (by decide)).trans h.lg.c1, World.cell?_setCell_same _ _ _ h.lg.c2, (k2 3 (by decide)).trans h.lg.c3, k3, k4⟩, k5, h.ng⟩
theorem LS.setFz (h : LS w W g d m1 m2 L l F) (x : Bool) : LS w (W.setCell ⟨g, 3, none⟩ (.bool x)) g d m1 m2 { L with fz := x } l F := by
  obtain ⟨k1, k2, k3, k4, k5⟩ := h.cell 3 (.bool x)
  exact ⟨k1, ⟨(k2 0 (by decide)).trans h.lg.c0, (k2 1 (by decide)).trans h.lg.c1, (k2 2 (by decide)).trans h.lg.c2, World.cell?_setCell_same _ _ _ h.lg.c3, k3, k4⟩, k5, h.ng⟩
end

/-- A log, and a page in a block of its own. -/
structure LP (w W : World) (g d m1 m2 : Nat) (L : Lg) (l : List Nat) (F : Nat → Option Obj) (b : Nat) (p : Pg) : Prop where
  ds : DS w W d m1 m2 L.D (b :: g :: l)
  lg : LgAt W g d L.ep L.nx L.fz
  pg : PgAt W b 0 p
  ne : b ≠ g
  fr : ∀ i, W.frozen? ⟨b, i, none⟩ = false
  st : ∀ k ∈ l, W.heap[k]? = F k
  ng : g ∉ l
  nb : b ∉ l
section
variable {w W : World} {g d m1 m2 : Nat} {L : Lg} {l : List Nat} {F : Nat → Option Obj} {b : Nat} {p : Pg}
theorem LP.lt (h : LP w W g d m1 m2 L l F b p) : b < W.heap.size := h.ds.dk.elim fun _ h => (h.2 b (.head _)).1
theorem LP.ls (h : LP w W g d m1 m2 L l F b p) : LS w W g d m1 m2 L l F := ⟨h.ds.less (fun _ hk => .tail _ hk), h.lg, h.st, h.ng⟩
/-- The page's block is one that stands. -/
theorem LP.more (h : LP w W g d m1 m2 L l F b p) : LS w W g d m1 m2 L (b :: l) (fun k => if k = b then W.heap[b]? else F k) :=
  ⟨h.ds.less (fun k hk => by
    rcases List.mem_cons.1 hk with rfl | hk
    · exact .tail _ (.head _)
    · rcases List.mem_cons.1 hk with rfl | hk
      · exact .head _
      · exact .tail _ (.tail _ hk)), h.lg, fun k hk => by
    rcases List.mem_cons.1 hk with rfl | hk
    · rw [if_pos rfl]
    · have hne : k ≠ b := fun e => h.nb (e ▸ hk)
      rw [if_neg hne]; exact h.st k hk, fun hk => by
    rcases List.mem_cons.1 hk with e | hk
    · exact h.ne e.symm
    · exact h.ng hk⟩
theorem LP.again {W' : World} {L' : Lg} (h : LP w W g d m1 m2 L l F b p) (k : LS w W' g d m1 m2 L' (b :: l) (fun k => if k = b then W.heap[b]? else F k)) : LP w W' g d m1 m2 L' l F b p := by
  have e : W'.heap[b]? = W.heap[b]? := by
    have := k.st b (.head _)
    rwa [if_pos rfl] at this
  exact ⟨k.ds.less (fun x hx => by
    rcases List.mem_cons.1 hx with rfl | hx
    · exact .tail _ (.head _)
    · rcases List.mem_cons.1 hx with rfl | hx
      · exact .head _
      · exact .tail _ (.tail _ hx)), k.lg,
    ⟨(World.cell?_of_block (a := ⟨b, 0, none⟩) e).trans h.pg.c0, (World.cell?_of_block (a := ⟨b, 0 + 1, none⟩) e).trans h.pg.c1, (World.cell?_of_block (a := ⟨b, 0 + 2, none⟩) e).trans h.pg.c2, (World.cell?_of_block (a := ⟨b, 0 + 3, none⟩) e).trans h.pg.c3,
      (World.cell?_of_block (a := ⟨b, 0 + 4, none⟩) e).trans h.pg.c4, (World.cell?_of_block (a := ⟨b, 0 + 5, none⟩) e).trans h.pg.c5⟩, h.ne, fun i => (World.frozen?_of_block (a := ⟨b, i, none⟩) e).trans (h.fr i),
    fun x hx => by
      have := k.st x (.tail _ hx)
      have hne : x ≠ b := fun e => h.nb (e ▸ hx)
      rwa [if_neg hne] at this, h.ng, h.nb⟩
theorem LP.step {W' : World} (h : LP w W g d m1 m2 L l F b p) (hb : Below W.heap.size W W') : LP w W' g d m1 m2 L l F b p := ⟨(h.ds.step hb).1, h.lg.below hb, h.pg.below hb h.lt, h.ne, fun i => (hb.frozen (p := ⟨b, i, none⟩) h.lt).trans (h.fr i), (h.ls.step hb).st, h.ng, h.nb⟩
theorem LP.boxed (h : LS w W g d m1 m2 L l F) (p : Pg) (t : TypeId) :
    LP w (W.alloc (.cells #[.int .u32 p.ep, .int .u32 p.nu, .int .i64 p.ki, .bool p.fi, .bool p.la, .string ⟨p.da.toArray⟩] t)) g d m1 m2 L l F W.heap.size p := by
  have h2 := PX.boxed W p t 0
  exact ⟨h.ds.alloc _, h.lg.below h2.below, h2.pg, by have := h.lg.lt; omega, fun i => World.frozen?_alloc_new _ _ _ _, (h.step h2.below).st, h.ng, fun hk => by have := h.lt hk; omega⟩
theorem LP.stamp (h : LP w W g d m1 m2 L l F b p) (e n : Nat) : LP w ((W.setCell ⟨b, 0, none⟩ (.int .u32 (e : Int))).setCell ⟨b, 1, none⟩ (.int .u32 (n : Int))) g d m1 m2 L l F b { p with ep := e, nu := n } := by
  have hb : ∀ i, i ≠ b → ((W.setCell ⟨b, 0, none⟩ (.int .u32 (e : Int))).setCell ⟨b, 1, none⟩ (.int .u32 (n : Int))).heap[i]? = W.heap[i]? := fun i hi =>
    (Below.heap_setCell _ ⟨b, 1, none⟩ _ i hi).trans (Below.heap_setCell _ ⟨b, 0, none⟩ _ i hi)
  have hs : ((W.setCell ⟨b, 0, none⟩ (.int .u32 (e : Int))).setCell ⟨b, 1, none⟩ (.int .u32 (n : Int))).heap.size = W.heap.size := by rw [setCell_size, setCell_size]
  have o : ∀ i, i ≠ 0 → i ≠ 1 → ((W.setCell ⟨b, 0, none⟩ (.int .u32 (e : Int))).setCell ⟨b, 1, none⟩ (.int .u32 (n : Int))).cell? ⟨b, i, none⟩ = W.cell? ⟨b, i, none⟩ := fun i h0 h1 =>
    (World.cell?_setCell_other _ _ _ _ (fun e => h1 (by injection e with _ e2; exact e2.symm))).trans (World.cell?_setCell_other _ _ _ _ (fun e => h0 (by injection e with _ e2; exact e2.symm)))
  have hlg := h.lg.lt
  refine ⟨h.ds.turn (k := b) (.head _) hs hb rfl rfl rfl, h.lg.of_block (hb g (Ne.symm h.ne)) (by rw [hs]; exact hlg), ⟨?_, ?_, (o 2 (by decide) (by decide)).trans h.pg.c2, (o 3 (by decide) (by decide)).trans h.pg.c3, (o 4 (by decide) (by decide)).trans h.pg.c4, (o 5 (by decide) (by decide)).trans h.pg.c5⟩, h.ne, fun i => by rw [World.frozen?_setCell, World.frozen?_setCell]; exact h.fr i,
    fun k hk => (hb k (fun e => h.nb (e ▸ hk))).trans (h.st k hk), h.ng, h.nb⟩
  · exact (World.cell?_setCell_other _ _ _ _ (fun e => by injection e with _ e2; cases e2)).trans (World.cell?_setCell_same _ _ _ h.pg.c0)
  · have h1 : (W.setCell ⟨b, 0, none⟩ (.int .u32 (e : Int))).cell? ⟨b, 1, none⟩ = some (.int .u32 (p.nu : Int)) := (World.cell?_setCell_other W ⟨b, 0, none⟩ ⟨b, 1, none⟩ _ (fun e => by injection e with _ e2; cases e2)).trans h.pg.c1
    exact World.cell?_setCell_same _ _ _ h1
theorem LP.disk {W' : World} {D' : Dk} (h : LP w W g d m1 m2 L l F b p) (hd : DS w W' d m1 m2 D' (b :: g :: l)) (hs : Stays W W' (b :: g :: l)) : LS w W' g d m1 m2 { L with D := D' } l F :=
  ⟨hd.less (fun _ hk => .tail _ hk), h.lg.of_block (hs g (.tail _ (.head _))) (hd.dk.elim fun _ h => (h.2 g (.tail _ (.head _))).1), fun k hk => (hs k (.tail _ (.tail _ hk))).trans (h.st k hk), h.ng⟩
end

set_option maxRecDepth 100000 in
set_option maxHeartbeats 4000000 in
theorem lwrite_any {w W : World} {g d m1 m2 : Nat} {L : Lg} {l : List Nat} {F : Nat → Option Obj} (h : LS w W g d m1 m2 L l F) (hk : L.ok) (hlt : (L.nx : Int) < L.D.size) (p : Pg) (hp : p.right = true) :
    Calls Try.prog 104 #[.pointer (some ⟨g, 0, none⟩), .agg #[.int .u32 p.ep, .int .u32 p.nu, .int .i64 p.ki, .bool p.fi, .bool p.la, .string ⟨p.da.toArray⟩]] W
      fun r w' => r = .returned (.int .i64 ((L.wr p).2 : Nat)) ∧ LS w w' g d m1 m2 (L.wr p).1 l F := by
  have LB := Lib.hid (LP.boxed h p 44)
  have hwr := Lib.hid (show IntKind.u32.wrap (L.nx : Int) = (L.nx : Int) by rw [IntKind.wrap_u32]; have := hk.nx; have := hk.size; omega)
  clear h
  go_enter Try.func104, Try.ntmps104
  go_upto_region 1 with fail
  refine wp_gate (fun X => LP w X g d m1 m2 L l F W.heap.size p) LB.out ?_
  intro w1 hX
  generalize W.heap.size = b at *
  have HX := Lib.hid hX
  have HD := Lib.hid (hX.step (Below.refl _ _).drew)
  clear hX LB
  have c1 := HD.out.lg.c1
  have c2 := HD.out.lg.c2
  have p0 := HD.out.pg.c0
  have p1 : w1.drew.cell? ⟨b, 1, none⟩ = some (.int .u32 (p.nu : Int)) := HD.out.pg.c1
  have hne := HX.out.ne
  have r0 : w1.cell? ⟨b, 0, none⟩ = some (.int .u32 (p.ep : Int)) := HX.out.pg.c0
  have r1 : w1.cell? ⟨b, 1, none⟩ = some (.int .u32 (p.nu : Int)) := HX.out.pg.c1
  have e0 : w1.frozen? ⟨b, 0, none⟩ = false := HX.out.fr 0
  have e1 : w1.frozen? ⟨b, 1, none⟩ = false := HX.out.fr 1
  have f0 := HD.out.fr 0
  have f1 := HD.out.fr 1
  have hw := hwr.out
  have K0 : ∀ (j : Nat) (u : Value) (X : World), X.cell? ⟨g, 1, none⟩ = some (.int .u32 (L.ep : Int)) ∧ X.cell? ⟨g, 2, none⟩ = some (.int .i64 (L.nx : Int)) → (X.setCell ⟨b, j, none⟩ u).cell? ⟨g, 1, none⟩ = some (.int .u32 (L.ep : Int)) ∧ (X.setCell ⟨b, j, none⟩ u).cell? ⟨g, 2, none⟩ = some (.int .i64 (L.nx : Int)) := fun j u X hX => And.intro
    ((World.cell?_setCell_other X ⟨b, j, none⟩ ⟨g, 1, none⟩ u (fun e => hne (by injection e))).trans hX.1)
    ((World.cell?_setCell_other X ⟨b, j, none⟩ ⟨g, 2, none⟩ u (fun e => hne (by injection e))).trans hX.2)
  have C0 := And.intro HX.out.lg.c1 HX.out.lg.c2
  have K1 : Hid ((w1.setCell ⟨b, 0, none⟩ (.int .u32 (L.ep : Int))).drew.cell? ⟨g, 1, none⟩ = some (.int .u32 (L.ep : Int)) ∧ (w1.setCell ⟨b, 0, none⟩ (.int .u32 (L.ep : Int))).drew.cell? ⟨g, 2, none⟩ = some (.int .i64 (L.nx : Int))) := Lib.hid (K0 _ _ _ C0)
  have K2 : Hid (((w1.setCell ⟨b, 0, none⟩ (.int .u32 (L.ep : Int))).setCell ⟨b, 1, none⟩ (.int .u32 (L.nx : Int))).drew.cell? ⟨g, 1, none⟩ = some (.int .u32 (L.ep : Int)) ∧ ((w1.setCell ⟨b, 0, none⟩ (.int .u32 (L.ep : Int))).setCell ⟨b, 1, none⟩ (.int .u32 (L.nx : Int))).drew.cell? ⟨g, 2, none⟩ = some (.int .i64 (L.nx : Int))) := Lib.hid (K0 _ _ _ (K0 _ _ _ C0))
  clear K0 C0
  go_region_held3 (fun w' => w'.cell? ⟨g, 1, none⟩ = some (.int .u32 (L.ep : Int)) ∧ w'.cell? ⟨g, 2, none⟩ = some (.int .i64 (L.nx : Int))) (first | exact K1.out | exact K2.out | go_keep) (fail)
  have HX := Lib.hid ((HX.out.stamp L.ep L.nx).step (Below.refl _ _).drew)
  generalize ((w1.setCell ⟨b, 0, none⟩ (.int .u32 (L.ep : Int))).setCell ⟨b, 1, none⟩ (.int .u32 (L.nx : Int))).drew = w2 at *
  rename_i hh
  clear hh c1 c2 p0 p1 r0 r1 e0 e1 f0 f1 hne hw K1 K2 HD
  have LY := Lib.hid (fun W => lay_yes { p with ep := L.ep, nu := L.nx } hp hk.ep (show L.nx < 4294967296 by have := hk.nx; have := hk.size; omega) W)
  have HLL := Lib.hid (layB_length { p with ep := L.ep, nu := L.nx } (right_ki p hp).2.2)
  go_wp2_with (refine wpList_load44g _ (by rfl) (by rfl) b 0 (by rfl) _ HX.out.pg ?_)
  refine (LY.out _).mono ?_
  rintro r w3 ⟨rfl, hb3⟩
  have HX := Lib.hid (HX.out.step hb3)
  have hpgB : pgB (layB { p with ep := L.ep, nu := L.nx }) = .agg ((layB { p with ep := L.ep, nu := L.nx }).map bv).toArray := rfl
  rw [hpgB]
  obtain ⟨pb, hpb⟩ : ∃ x, layB { p with ep := L.ep, nu := L.nx } = x := ⟨_, rfl⟩
  rw [hpb] at HLL ⊢
  have HPB := Lib.hid hpb
  clear hb3 LY hpgB hpb
  go_upto_region 4 with (refine wpList_new56 (by rfl) _ _ (by rfl) _ _ rfl (by rfl) (by rfl) pb (by rfl) HLL.out ?_; intro w4 hbuf hw4 _; have HBF := Lib.hid hbuf; have HX := Lib.hid (HX.out.step hw4); clear hbuf hw4)
  generalize w3.heap.size = b5 at *
  have HX := Lib.hid (HX.out.step (Below.refl _ _).drew)
  have y0 : ∀ y : WS (fun X => X = w4.drew), y.w.cell? ⟨g, 0, none⟩ = some (.pointer (some ⟨d, 0, none⟩)) := fun y => by rw [y.ok]; exact HX.out.lg.c0
  have y2 : ∀ y : WS (fun X => X = w4.drew), y.w.cell? ⟨g, 2, none⟩ = some (.int .i64 (L.nx : Int)) := fun y => by rw [y.ok]; exact HX.out.lg.c2
  have hl56 : ∀ y : WS (fun X => X = w4.drew), (Instr.loadAt 56 (.pointer (some ⟨b5, 0, none⟩))).run Try.prog y.w = .ok (.agg (pb.map bv).toArray) y.w := fun y => by rw [y.ok]; exact HBF.out.drew.load56
  haveI : Nonempty (WS (fun X => X = w4.drew)) := ⟨⟨w4.drew, rfl⟩⟩
  refine wp_region_ws_tail (fun X => X = w4.drew) 9 (by kernel_rfl) (by kernel_rfl) rfl ?_
  simp only [List.take_succ_cons, List.take_zero, List.drop_succ_cons, List.drop_zero]
  repeat (first
    | (go_big_quiet_step (fail))
    | (go_big_quiet_want; refine quiet_load 56 _ (by rfl) _ (by rfl) _ hl56 ?_; go_simp; go_big_quiet_on))
  refine wpQuiet_nil ?_
  intro w8 hw8
  obtain rfl : w8 = w4.drew := hw8
  clear y0 y2 hl56 this HBF
  generalize w4.drew = w5 at *
  have hm : L.D.may (L.nx : Int) = 0 := by
    unfold Dk.may
    rw [if_neg (by rw [hk.down]; decide), if_neg (by omega)]
  have HM := Lib.hid hm
  clear hm
  by_cases hf : L.D.fuse = 0
  · have hwrt := Lib.hid (show L.wr p = ({ L with fz := true }, 6) by unfold Lg.wr; rw [if_pos hf])
    have WR := Lib.hid (ds_write_fused HX.out.ds (L.nx : Int) pb HM.out hf)
    clear hf
    go_wp2_with fail
    refine WR.out.mono ?_
    rintro r w6 ⟨rfl, hd, hs⟩
    have HL := Lib.hid (HX.out.disk hd hs)
    clear hd hs WR HX
    have c3 := HL.out.lg.c3
    have f3 := HL.out.lg.fr 3
    go_wp2_with fail
    go_ret
    rw [hwrt.out]
    exact ⟨rfl, HL.out.setFz true⟩
  · have hwrt := Lib.hid (show L.wr p = ({ L with D := L.D.burnt.wrote (L.nx : Int) pb, nx := L.nx + 1 }, 0) by unfold Lg.wr; rw [if_neg hf, HPB.out])
    have WR := Lib.hid (ds_write HX.out.ds (L.nx : Int) pb HLL.out HM.out hf (by have := hk.fuse; omega) (by have := hk.len; omega))
    clear hf
    go_wp2_with fail
    refine WR.out.mono ?_
    rintro r w6 ⟨rfl, hd, hs⟩
    have HL := Lib.hid (HX.out.disk hd hs)
    clear hd hs WR HX
    have c2 := HL.out.lg.c2
    have f2 := HL.out.lg.fr 2
    have hnx := hk.nx
    have hsz := hk.size
    go_wp2_with fail
    go_ret
    rw [hwrt.out]
    exact ⟨rfl, HL.out.setNx (L.nx + 1)⟩

/-- A log behind a write. -/
theorem Lg.ok.wr {L : Lg} (h : L.ok) (hlt : (L.nx : Int) < L.D.size) (hlen : L.D.loose.length < 90000) (p : Pg) : (L.wr p).1.ok := by
  unfold Lg.wr
  split
  · exact ⟨h.down, h.fuse, h.len, h.ep, h.nx, h.size⟩
  · refine ⟨h.down, ?_, ?_, h.ep, ?_, h.size⟩
    · have := h.fuse
      show -1 ≤ max (L.D.fuse - 1) (-1) ∧ max (L.D.fuse - 1) (-1) ≤ 1000000
      omega
    · show (L.D.loose ++ [_]).length ≤ 90000
      rw [List.length_append]
      simp; omega
    · show ((L.nx + 1 : Nat) : Int) ≤ L.D.size
      omega

set_option maxRecDepth 100000 in
set_option maxHeartbeats 4000000 in
theorem put_any {w W : World} {g d m1 m2 : Nat} {L : Lg} {l : List Nat} {F : Nat → Option Obj} (h : LS w W g d m1 m2 L l F) (hk : L.ok) (hlt : (L.nx : Int) + 1 < L.D.size ∨ (L.nx : Int) < L.D.size ∧ L.nx % 16 ≠ 0) (hlen : L.D.loose.length < 80000) (p : Pg) (hp : p.right = true) :
    Calls Try.prog 98 #[.pointer (some ⟨g, 0, none⟩), .agg #[.int .u32 p.ep, .int .u32 p.nu, .int .i64 p.ki, .bool p.fi, .bool p.la, .string ⟨p.da.toArray⟩]] W
      fun r w' => r = .returned (.int .i64 ((L.put p).2 : Nat)) ∧ LS w w' g d m1 m2 (L.put p).1 l F := by
  have LB := Lib.hid (LP.boxed h p 44)
  clear h
  have hnx : L.nx ≤ 100000 := by have := hk.nx; have := hk.size; omega
  by_cases h16 : L.nx % 16 = 0
  · have HY := Lib.hid (heads_yes L.nx (by omega) h16)
    have NM := Lib.hid (fun W => segnum_any L.nx (by omega) W)
    have hlt' : (L.nx : Int) < L.D.size := by omega
    have W1 := Lib.hid (fun X l' F' (hX : LS w X g d m1 m2 L l' F') => lwrite_any hX hk hlt' ⟨0, 0, 1, false, false, headB L.nx⟩ (by simp [Pg.right, headB]))
    have K1 := Lib.hid (hk.wr hlt' (by omega) ⟨0, 0, 1, false, false, headB L.nx⟩)
    have hpt := Lib.hid (show L.put p = if (L.wr ⟨0, 0, 1, false, false, headB L.nx⟩).2 = 0 then (L.wr ⟨0, 0, 1, false, false, headB L.nx⟩).1.wr p else L.wr ⟨0, 0, 1, false, false, headB L.nx⟩ by unfold Lg.put; rw [if_pos h16])
    have hlt2 := Lib.hid (show (L.wr ⟨0, 0, 1, false, false, headB L.nx⟩).2 = 0 → ((L.wr ⟨0, 0, 1, false, false, headB L.nx⟩).1.nx : Int) < (L.wr ⟨0, 0, 1, false, false, headB L.nx⟩).1.D.size by
      unfold Lg.wr
      split
      · intro h; cases h
      · intro _
        show ((L.nx + 1 : Nat) : Int) < L.D.size
        omega)
    dsimp only at W1
    generalize L.wr ⟨0, 0, 1, false, false, headB L.nx⟩ = R at *
    obtain ⟨L1, e1⟩ := R
    dsimp only at W1 K1 hpt hlt2
    clear hlt hlt'
    go_enter Try.func98, Try.ntmps98
    go_upto_region 1 with fail
    refine wp_gate (fun X => LP w X g d m1 m2 L l F W.heap.size p) LB.out ?_
    intro w1 hX
    generalize W.heap.size = b at *
    have HX := Lib.hid hX
    have c2 := hX.lg.c2
    clear hX LB
    go_wp2_with fail
    refine (HY.out _).mono ?_
    rintro r w2 ⟨rfl, rfl⟩
    go_wp2_with fail
    refine (NM.out _).mono ?_
    rintro r w2 ⟨rfl, hb⟩
    have HX := Lib.hid (HX.out.step hb)
    clear hb c2
    go_wp2_with fail
    refine (W1.out _ _ _ HX.out.more).mono ?_
    rintro r w3 ⟨rfl, hL⟩
    have HX := Lib.hid (HX.out.again hL)
    clear hL W1
    by_cases he : e1 = 0
    · subst he
      have W2 := Lib.hid (lwrite_any HX.out.ls K1.out (hlt2.out rfl) p hp)
      have hpt2 := Lib.hid (hpt.out.trans (if_pos rfl))
      go_wp2_with (refine wpList_load44g _ (by rfl) (by rfl) b 0 (by rfl) _ HX.out.pg ?_)
      refine W2.out.mono ?_
      rintro r w4 ⟨rfl, hL⟩
      go_wp2_with fail
      go_ret
      rw [hpt2.out]
      exact ⟨rfl, hL⟩
    · have heb : ((e1 : Int) != 0) = true := by rw [bne_iff_ne]; omega
      have hpt2 := Lib.hid (hpt.out.trans (if_neg he))
      clear he
      go_wp2_with fail
      go_ret
      rw [hpt2.out]
      exact ⟨rfl, HX.out.ls⟩
  · have HY := Lib.hid (heads_no L.nx (by omega) h16)
    have hlt' : (L.nx : Int) < L.D.size := by omega
    have hpt := Lib.hid (show L.put p = L.wr p by unfold Lg.put; rw [if_neg h16])
    have W1 := Lib.hid (fun X (hX : LS w X g d m1 m2 L l F) => lwrite_any hX hk hlt' p hp)
    clear hlt hlt'
    go_enter Try.func98, Try.ntmps98
    go_upto_region 1 with fail
    refine wp_gate (fun X => LP w X g d m1 m2 L l F W.heap.size p) LB.out ?_
    intro w1 hX
    generalize W.heap.size = b at *
    have HX := Lib.hid hX
    have c2 := hX.lg.c2
    clear hX LB
    go_wp2_with fail
    refine (HY.out _).mono ?_
    rintro r w2 ⟨rfl, rfl⟩
    clear c2
    go_wp2_with (refine wpList_load44g _ (by rfl) (by rfl) b 0 (by rfl) _ HX.out.pg ?_)
    refine (W1.out _ HX.out.ls).mono ?_
    rintro r w4 ⟨rfl, hL⟩
    go_wp2_with fail
    go_ret
    rw [hpt.out]
    exact ⟨rfl, hL⟩
end Go.Proofs.Ytmaaljfcnnlnpaa
