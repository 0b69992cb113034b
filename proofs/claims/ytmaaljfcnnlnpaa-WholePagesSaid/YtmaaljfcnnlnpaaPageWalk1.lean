/-
  The walks of page.bit and page.laid.
-/
import Derived.Test.YtmaaljfcnnlnpaaPagePure
import Derived.Test.YtmaaljfcnnlnpaaPageMem
namespace Go.Proofs.Ytmaaljfcnnlnpaa
open Go.RowKit
attribute [local go_sem ↓] Go.wp_at_zero Go.wp_at_succ

theorem bit_any (b : Bool) (m : Nat) (w : World) :
    Calls Try.prog 103 #[.bool b, .int .u8 m] w fun e w' => e = .returned (.int .u8 ((if b then m else 0 : Nat) : Int)) ∧ w = w' := by
  cases b
  · go_enter Try.func103, Try.ntmps103
    go_wp2_with fail
    go_ret
    exact ⟨rfl, rfl⟩
  · go_enter Try.func103, Try.ntmps103
    go_wp2_with fail
    go_ret
    exact ⟨rfl, rfl⟩

/-- The worlds of laid's walk. -/
structure LW (w W : World) (g1 g2 g3 : Nat) (p : Pg) (bs : List UInt8) : Prop where
  below : Below w.heap.size w W
  pg : PgAt W g1 0 p
  res : Buf W g2 (List.replicate 64 0)
  buf : Buf W g3 bs
  l1 : g1 < W.heap.size
  n13 : g1 ≠ g3
  n23 : g2 ≠ g3
  ge3 : w.heap.size ≤ g3
  ge2 : w.heap.size ≤ g2

theorem LW.step {w W W' : World} {g1 g2 g3 : Nat} {p : Pg} {bs : List UInt8} (h : LW w W g1 g2 g3 p bs) (hb : Below W.heap.size W W') : LW w W' g1 g2 g3 p bs :=
  ⟨h.below.trans (hb.mono h.below.size), h.pg.below hb h.l1, h.res.step hb, h.buf.step hb, Nat.lt_of_lt_of_le h.l1 hb.size, h.n13, h.n23, h.ge3, h.ge2⟩

theorem PgAt.far {W : World} {b o g : Nat} {p : Pg} (h : PgAt W b o p) (hne : b ≠ g) (k : Nat) (vs : List Value) : PgAt (W.setCells g k vs) b o p := by
  have e : ∀ i, (W.setCells g k vs).cell? ⟨b, i, none⟩ = W.cell? ⟨b, i, none⟩ := fun i => World.cell?_setCells_out g vs k W ⟨b, i, none⟩ (fun h => absurd h hne)
  exact ⟨(e _).trans h.c0, (e _).trans h.c1, (e _).trans h.c2, (e _).trans h.c3, (e _).trans h.c4, (e _).trans h.c5⟩

theorem LW.copy {w W : World} {g1 g2 g3 : Nat} {p : Pg} {bs : List UInt8} (h : LW w W g1 g2 g3 p bs) (o : Nat) (vs : List UInt8) (ho : o + vs.length ≤ 64) : LW w (W.setCells g3 o (vs.map bv)) g1 g2 g3 p (splice bs o vs) :=
  ⟨below_setCells h.ge3 _ _ _ h.below, h.pg.far h.n13 _ _, h.res.far h.n23 _ _, h.buf.copy o vs ho, by rw [heap_size_setCells]; exact h.l1, h.n13, h.n23, h.ge3, h.ge2⟩

theorem LW.set {w W : World} {g1 g2 g3 : Nat} {p : Pg} {bs : List UInt8} (h : LW w W g1 g2 g3 p bs) (j : Nat) (x : UInt8) : LW w (W.setCell ⟨g3, j, none⟩ (bv x)) g1 g2 g3 p (bs.set j x) :=
  ⟨h.below.setCell h.ge3 _, h.pg.far h.n13 j [bv x], h.res.far h.n23 j [bv x], h.buf.set j x, by simpa [World.setCell] using h.l1, h.n13, h.n23, h.ge3, h.ge2⟩

theorem LW.start (w : World) (p : Pg) (c1 c2 c3 : Array Value) (t1 t2 t3 : TypeId) (h1 : c1 = #[.int .u32 p.ep, .int .u32 p.nu, .int .i64 p.ki, .bool p.fi, .bool p.la, .string ⟨p.da.toArray⟩])
    (h2 : c2 = ((List.replicate 64 (0 : UInt8)).map bv).toArray) (h3 : c3 = ((List.replicate 64 (0 : UInt8)).map bv).toArray) :
    LW w (((w.alloc (.cells c1 t1)).alloc (.cells c2 t2)).alloc (.cells c3 t3)) w.heap.size (w.heap.size + 1) (w.heap.size + 1 + 1) p (List.replicate 64 0) := by
  subst h1 h2 h3
  have hp : PgAt (w.alloc (.cells #[.int .u32 p.ep, .int .u32 p.nu, .int .i64 p.ki, .bool p.fi, .bool p.la, .string ⟨p.da.toArray⟩] t1)) w.heap.size 0 p := by
    refine ⟨?_, ?_, ?_, ?_, ?_, ?_⟩ <;> rw [World.cell?_alloc_new] <;> rfl
  have s1 : ∀ (W : World) x, Below W.heap.size W (W.alloc x) := fun W x => (Below.refl _ _).alloc (Nat.le_refl _) x
  have e1 : ∀ x, (w.alloc x).heap.size = w.heap.size + 1 := fun x => by simp
  have e2 : ∀ x y, ((w.alloc x).alloc y).heap.size = w.heap.size + 1 + 1 := fun x y => by simp
  have b2 := Buf.new (w.alloc (.cells #[.int .u32 p.ep, .int .u32 p.nu, .int .i64 p.ki, .bool p.fi, .bool p.la, .string ⟨p.da.toArray⟩] t1)) (List.replicate 64 0) _ t2 rfl (by simp)
  have b3 := Buf.new ((w.alloc (.cells #[.int .u32 p.ep, .int .u32 p.nu, .int .i64 p.ki, .bool p.fi, .bool p.la, .string ⟨p.da.toArray⟩] t1)).alloc (.cells ((List.replicate 64 (0 : UInt8)).map bv).toArray t2)) (List.replicate 64 0) _ t3 rfl (by simp)
  rw [e1] at b2
  rw [e2] at b3
  refine ⟨((s1 _ _).trans ((s1 _ _).mono (by rw [e1]; omega))).trans ((s1 _ _).mono (by rw [e2]; omega)), (hp.below (s1 _ _) (by rw [e1]; omega)).below (s1 _ _) (by rw [e2]; omega), b2.alloc _, b3, by have := b3.lt; omega, by omega, by omega, by omega, by omega⟩

theorem chain_drop (p : Pg) (hd : p.da.length ≤ 49) (bs5 : List UInt8)
    (h : bs5 = ((((splice (splice (List.replicate 64 0) 4 (four p.ep)) 8 (four p.nu)).set 12 (UInt8.ofNat p.ki.toNat)).set 13 (marks p)).set 14 (UInt8.ofNat p.da.length))) :
    (splice bs5 15 p.da).drop 4 = bodyB p := by
  have h1 : bs5 = [0, 0, 0, 0] ++ (four p.ep ++ four p.nu ++ [UInt8.ofNat p.ki.toNat, marks p, UInt8.ofNat p.da.length] ++ List.replicate 49 0) := by
    rw [h]; rfl
  rw [h1]
  generalize hX : four p.ep ++ four p.nu ++ [UInt8.ofNat p.ki.toNat, marks p, UInt8.ofNat p.da.length] = X
  have hl : X.length = 11 := by rw [← hX]; rfl
  have h2 : [0, 0, 0, 0] ++ (X ++ List.replicate 49 (0 : UInt8)) = ([0, 0, 0, 0] ++ X) ++ List.replicate 49 0 := by simp
  have h3 : ([0, 0, 0, 0] ++ X : List UInt8).length = 15 := by simp [hl]
  unfold splice
  have h4 : List.drop (15 + p.da.length) (([0, 0, 0, 0] ++ X) ++ List.replicate 49 (0 : UInt8)) = List.replicate (49 - p.da.length) 0 := by
    rw [List.drop_append, h3, List.drop_of_length_le (by omega), show 15 + p.da.length - 15 = p.da.length by omega, List.drop_replicate]
    rfl
  rw [h2, List.take_left' h3, h4]
  unfold bodyB
  rw [hX, List.append_assoc, List.append_assoc, List.append_assoc]
  rfl

/-- The world is given a letter, of which S is known. -/
theorem wp_gate {P : Program} {c : Code} {Q : Exit → Act → World → Prop} {a : Act} {W : World} (S : World → Prop) (hS : S W) (h : ∀ W', S W' → c.wp P Q a W') : c.wp P Q a W := h W hS

theorem wp_gate' {Q : Exit → Act → World → Prop} {e : Exit} {a : Act} {W : World} (S : World → Prop) (hS : S W) (h : ∀ W', S W' → Q e a W') : Q e a W := h W hS

set_option maxRecDepth 100000 in
set_option maxHeartbeats 4000000 in
theorem laid_any (p : Pg) (hd : p.da.length ≤ 49) (he : p.ep < 4294967296) (hn : p.nu < 4294967296) (hk : 0 ≤ p.ki ∧ p.ki < 256) (w : World) :
    Calls Try.prog 85 #[.agg #[.int .u32 p.ep, .int .u32 p.nu, .int .i64 p.ki, .bool p.fi, .bool p.la, .string ⟨p.da.toArray⟩]] w fun r w' => r = .returned (pgB (layB p)) ∧ Below w.heap.size w w' := by
  have L0 := Lib.hid (fun c2 c3 h2 h3 => LW.start w p _ c2 c3 44 56 56 rfl h2 h3)
  go_enter Try.func85, Try.ntmps85
  go_wp2_with fail
  refine wp_gate (fun W => LW w W w.heap.size (w.heap.size + 1) (w.heap.size + 1 + 1) p (List.replicate 64 0)) (L0.out _ _ (by rfl) (by rfl)) ?_
  intro W1 hL1
  have HN := Lib.hid (show Hid True from Lib.hid trivial)
  generalize w.heap.size + 1 + 1 = g3 at *
  generalize w.heap.size + 1 = g2 at *
  have q0 := hL1.pg.c0
  have HL1 := Lib.hid hL1
  clear hL1 L0 HN
  go_region_held3 (fun w' => w'.cell? ⟨w.heap.size, 0, none⟩ = some (.int .u32 p.ep)) (first | go_keep | exact HL3.out.pg.c0)
    (first
      | (go_at_call 33; refine (four_any p.ep he _).mono ?_; rintro e w' ⟨rfl, hb1⟩; have HL2 := Lib.hid (HL1.out.step ((Below.refl _ _).drew.trans hb1)); have q1 := HL2.out.pg.c0)
      | (have HL3 := Lib.hid (HL2.out.copy 4 (four p.ep) (by simp [four_length])); refine step_copy_string (by rfl) _ _ _ _ (by rfl) 5 Try.underlying25 (by intro w; kernel_rfl) g3 4 60 60 (by rfl) _ (by rfl) (by simp [ByteArray.size, four_length]) (fun j hj => (HL2.out.buf.there (4 + j) (by simp [ByteArray.size, four_length] at hj; omega)).1 |> fun x => by rwa [Nat.zero_add] at x) (fun j hj => HL2.out.buf.frozen _) ?_))
  go_wp2_with fail
  refine wp_gate (fun W => LW w W w.heap.size g2 g3 p (splice (List.replicate 64 0) 4 (four p.ep))) HL3.out ?_
  clear HL3 HL2 q1 hb1 q0 HL1
  intro W2 hL
  generalize hbs1 : splice (List.replicate 64 0) 4 (four p.ep) = bs1 at hL
  have HE1 := Lib.hid hbs1
  clear hbs1
  have q0 := hL.pg.c1
  have HL1 := Lib.hid hL
  clear hL
  simp only [Nat.zero_add] at q0
  go_region_held3 (fun w' => w'.cell? ⟨w.heap.size, 1, none⟩ = some (.int .u32 p.nu)) (first | go_keep | exact HL3.out.pg.c1)
    (first
      | (go_at_call 33; refine (four_any p.nu hn _).mono ?_; rintro e w' ⟨rfl, hb1⟩; have HL2 := Lib.hid (HL1.out.step ((Below.refl _ _).drew.trans hb1)); have q1 := HL2.out.pg.c1)
      | (have HL3 := Lib.hid (HL2.out.copy 8 (four p.nu) (by simp [four_length])); refine step_copy_string (by rfl) _ _ _ _ (by rfl) 5 Try.underlying25 (by intro w; kernel_rfl) g3 8 56 56 (by rfl) _ (by rfl) (by simp [ByteArray.size, four_length]) (fun j hj => (HL2.out.buf.there (8 + j) (by simp [ByteArray.size, four_length] at hj; omega)).1 |> fun x => by rwa [Nat.zero_add] at x) (fun j hj => HL2.out.buf.frozen _) ?_))
  refine wp_gate' (fun W => LW w W w.heap.size g2 g3 p (splice bs1 8 (four p.nu))) HL3.out ?_
  clear HL3 HL2 q1 hb1 q0 HL1
  intro W3 hL
  generalize hbs1 : splice bs1 8 (four p.nu) = bs2 at hL
  have HE2 := Lib.hid hbs1
  clear hbs1
  have q2 := hL.pg.c2
  have q3 := hL.pg.c3
  have q4 := hL.pg.c4
  have q5 := hL.pg.c5
  have hlen := hL.buf.len
  have c12 := hL.buf.cell 12 (by omega)
  have f12 := hL.buf.frozen
  have HL1 := Lib.hid hL
  clear hL
  simp only [Nat.zero_add] at q2 q3 q4 q5
  go_wp2_with fail
  refine wp_gate (fun W => LW w W w.heap.size g2 g3 p (bs2.set 12 (UInt8.ofNat p.ki.toNat))) (by
    have e : (Value.int .u8 p.ki) = bv (UInt8.ofNat p.ki.toNat) := by
      have h1 : (UInt8.ofNat p.ki.toNat).toNat = p.ki.toNat := by simp; omega
      unfold bv; rw [h1]; congr 1; omega
    rw [e]; exact HL1.out.set 12 _) ?_
  clear HL1 q2 q3 q4 q5 c12 f12 hlen
  intro W4 hL
  generalize hbs1 : bs2.set 12 (UInt8.ofNat p.ki.toNat) = bs3 at hL
  have HE3 := Lib.hid hbs1
  clear hbs1
  have q3 := hL.pg.c3
  have q4 := hL.pg.c4
  have hlen := hL.buf.len
  have c13 := hL.buf.cell 13 (by omega)
  have f13 := hL.buf.frozen
  have HL1 := Lib.hid hL
  have hne : w.heap.size ≠ g3 := hL.n13
  clear hL
  simp only [Nat.zero_add] at q3 q4
  obtain ⟨x1, hx1⟩ : ∃ x : Nat, x = if p.fi then 1 else 0 := ⟨_, rfl⟩
  obtain ⟨x2, hx2⟩ : ∃ x : Nat, x = if p.la then 2 else 0 := ⟨_, rfl⟩
  have hxb : x1 < 256 ∧ x2 < 256 := by subst hx1 hx2; split <;> split <;> decide
  have B1 := Lib.hid (fun W => by have := bit_any p.fi 1 W; rw [← hx1] at this; exact this)
  have B2 := Lib.hid (fun W => by have := bit_any p.la 2 W; rw [← hx2] at this; exact this)
  have hbits : bits BinOp.or IntKind.u8 (x1 : Int) (x2 : Int) = ((marks p).toNat : Int) := by
    subst hx1 hx2
    unfold marks
    cases p.fi <;> cases p.la <;> rfl
  clear hx1 hx2
  have k3 : ∀ v, (W4.setCell ⟨g3, 13, none⟩ v).drew.cell? ⟨w.heap.size, 3, none⟩ = some (.bool p.fi) := fun v => (World.cell?_setCell_far W4 ⟨g3, 13, none⟩ ⟨w.heap.size, 3, none⟩ v (fun e => hne e.symm)).trans q3
  have k4 : ∀ v, (W4.setCell ⟨g3, 13, none⟩ v).drew.cell? ⟨w.heap.size, 4, none⟩ = some (.bool p.la) := fun v => (World.cell?_setCell_far W4 ⟨g3, 13, none⟩ ⟨w.heap.size, 4, none⟩ v (fun e => hne e.symm)).trans q4
  go_region_held3 (fun w' => w'.cell? ⟨w.heap.size, 3, none⟩ = some (.bool p.fi) ∧ w'.cell? ⟨w.heap.size, 4, none⟩ = some (.bool p.la)) (first | go_keep | exact ⟨k3 _, k4 _⟩)
    (first
      | (go_at_call_of 103 (Value.bool p.fi); refine (B1.out _).mono ?_; rintro e w' ⟨rfl, rfl⟩)
      | (go_at_call_of 103 (Value.bool p.la); refine (B2.out _).mono ?_; rintro e w' ⟨rfl, rfl⟩))
  refine wp_gate' (fun W => LW w W w.heap.size g2 g3 p (bs3.set 13 (marks p))) ((HL1.out.set 13 (marks p)).step (Below.refl _ _).drew) ?_
  clear HL1 q3 q4 c13 f13 hlen k3 k4 hbits hxb B1 B2
  intro W5 hL
  generalize hbs1 : bs3.set 13 (marks p) = bs4 at hL
  have HE4 := Lib.hid hbs1
  clear hbs1
  have q5 := hL.pg.c5
  have hlen := hL.buf.len
  have c14 := hL.buf.cell 14 (by omega)
  have f14 := hL.buf.frozen
  have hsz : (ByteArray.mk p.da.toArray).size = p.da.length := by simp [ByteArray.size]
  have HL1 := Lib.hid hL
  clear hL
  simp only [Nat.zero_add] at q5
  go_wp2_with fail
  refine wp_gate (fun W => LW w W w.heap.size g2 g3 p (bs4.set 14 (UInt8.ofNat p.da.length))) (by
    have e : (Value.int .u8 (p.da.length : Int)) = bv (UInt8.ofNat p.da.length) := by
      have h1 : (UInt8.ofNat p.da.length).toNat = p.da.length := by simp; omega
      unfold bv; rw [h1]
    rw [e]; exact HL1.out.set 14 _) ?_
  clear HL1 q5 c14 f14 hlen
  intro W6 hL
  generalize hbs1 : bs4.set 14 (UInt8.ofNat p.da.length) = bs5 at hL
  have HE5 := Lib.hid hbs1
  clear hbs1
  have q5 := hL.pg.c5
  have HL1 := Lib.hid (hL.step (Below.refl _ _).drew)
  have HL3 := Lib.hid ((hL.step (Below.refl _ _).drew).copy 15 p.da (by omega))
  clear hL
  simp only [Nat.zero_add] at q5
  go_region_held3 (fun w' => w'.cell? ⟨w.heap.size, 5, none⟩ = some (.string ⟨p.da.toArray⟩)) (first | go_keep | exact HL3.out.pg.c5)
    (first
      | (refine step_copy_string (by rfl) _ _ _ _ (by rfl) 5 Try.underlying25 (by intro w; kernel_rfl) g3 15 49 49 (by rfl) _ (by rfl) (by rw [hsz]; exact hd) (fun j hj => (HL1.out.buf.there (15 + j) (by rw [hsz] at hj; omega)).1 |> fun x => by rwa [Nat.zero_add] at x) (fun j hj => HL1.out.buf.frozen _) ?_))
  refine wp_gate' (fun W => LW w W w.heap.size g2 g3 p (splice bs5 15 p.da)) HL3.out ?_
  clear HL1 HL3 q5
  have HD := Lib.hid (chain_drop p hd bs5 (by rw [← HE5.out, ← HE4.out, ← HE3.out, ← HE2.out, ← HE1.out]))
  clear HE1 HE2 HE3 HE4 HE5
  intro W7 hL
  generalize splice bs5 15 p.da = bs6 at hL HD
  have hbs : BytesAt W7 g3 4 (bodyB p) := by
    have := hL.buf.bytesFrom 4 60
    rw [HD.out, List.take_of_length_le (by rw [bodyB_length p hd]; exact Nat.le_refl _)] at this
    exact this
  have HL1 := Lib.hid (hL.step (Below.refl _ _).drew)
  have hcv : (convert 25 9 (.slice (some ⟨g3, 4, none⟩) 60 60)).run Try.prog W7 = .ok (.string ⟨(bodyB p).toArray⟩) W7 := run_bytes_str hbs (bodyB_length p hd).symm
  have HCV := Lib.hid (show ∀ W : World, BytesAt W g3 4 (bodyB p) → (convert 25 9 (.slice (some ⟨g3, 4, none⟩) 60 60)).run Try.prog W = .ok (.string ⟨(bodyB p).toArray⟩) W from fun W h => run_bytes_str h (bodyB_length p hd).symm)
  have HBS := Lib.hid (show BytesAt W7.drew g3 4 (bodyB p) from hbs)
  have hss : (ByteArray.mk (bodyB p).toArray).size ≤ maxLen := by show (bodyB p).toArray.size ≤ maxLen; rw [List.size_toArray, bodyB_length p hd]; decide
  have HS1 := Lib.hid hss
  have HS2 := Lib.hid (CrcP.sum_lt (bodyB p))
  have hcv0 := HCV.out W7.drew hbs
  have HTL := Lib.hid (show ∀ W : World, Buf W g3 (splice bs6 0 (four (CrcP.sum (bodyB p)))) → BytesAt W g3 4 (bodyB p) from fun W h => by
    have := h.bytesFrom 4 60
    rw [show (splice bs6 0 (four (CrcP.sum (bodyB p)))).drop 4 = bodyB p from HD.out, List.take_of_length_le (by rw [bodyB_length p hd]; exact Nat.le_refl _)] at this
    exact this)
  clear hL hbs hss
  go_wp2_with fail
  go_region_held3 (fun w' => (convert 25 9 (.slice (some ⟨g3, 4, none⟩) 60 60)).run Try.prog w' = .ok (.string ⟨(bodyB p).toArray⟩) w') (first | go_keep | exact hcv4)
    (first
      | (go_at_call 29; refine (sum_any _ HS1.out _).mono ?_; rintro e w' ⟨rfl, hb1⟩; have HL2 := Lib.hid (HL1.out.step hb1); have hcv2 := HCV.out w' (HBS.out.keep hb1 HL1.out.buf.lt))
      | (go_at_call 33; refine (four_any _ HS2.out _).mono ?_; rintro e w'' ⟨rfl, hb2⟩; have HL3 := Lib.hid (HL2.out.step hb2); have hcv3 := HCV.out w'' ((HBS.out.keep hb1 HL1.out.buf.lt).keep hb2 HL2.out.buf.lt))
      | (have HL4 := Lib.hid (HL3.out.copy 0 (four (CrcP.sum (bodyB p))) (by simp [four_length])); have hcv4 := HCV.out _ (HTL.out _ HL4.out.buf); refine step_copy_string (by rfl) _ _ _ _ (by rfl) 5 Try.underlying25 (by intro w; kernel_rfl) g3 0 4 64 (by rfl) _ (by rfl) (by simp [ByteArray.size, four_length]) (fun j hj => (HL3.out.buf.there (0 + j) (by simp [ByteArray.size, four_length] at hj; omega)).1 |> fun x => by rwa [Nat.zero_add] at x) (fun j hj => HL3.out.buf.frozen _) ?_))
  refine wp_gate' (fun W => LW w W w.heap.size g2 g3 p (layB p)) (by
    have e : splice bs6 0 (four (CrcP.sum (bodyB p))) = layB p := by
      unfold layB
      rw [← HD.out]
      rfl
    have := HL4.out
    rw [e] at this
    exact this) ?_
  clear HL1 HL2 HL3 HL4 hcv hcv0 hcv2 hcv3 hcv4 HCV HTL HBS HD HS1 HS2
  intro W8 hL
  have HB3 := Lib.hid hL.buf
  have HB2 := Lib.hid hL.res
  have HLB := Lib.hid ((hL.res.stored (layB p) (layB_length p hd)).loadVar56)
  have HR := Lib.hid (show Below w.heap.size w (W8.setCells g2 0 ((layB p).map bv)) from below_setCells hL.ge2 _ _ _ hL.below)
  have HLL := Lib.hid (layB_length p hd)
  clear hL
  go_wp2_with (first | refine wpList_load56 (by rfl) _ (by rfl) g3 (by rfl) _ HB3.out ?_ | refine wpList_store56 (by rfl) _ _ (by rfl) g2 (by rfl) (layB p) (by rfl) _ HB2.out HLL.out ?_)
  exact bodyPost_ret (results_cell1 (p := 2) (ty := 56) rfl _ _ ⟨g2, 0, none⟩ _ rfl HLB.out) rfl ⟨rfl, HR.out⟩
end Go.Proofs.Ytmaaljfcnnlnpaa
