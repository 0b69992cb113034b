/-
  The walk of the document's Lay of a page.
-/
import Derived.Test.YtmaaljfcnnlnpaaPageWalk6
namespace Go.Proofs.Ytmaaljfcnnlnpaa
open Go.RowKit

/-- The worlds of the walk: the page boxed, the result's bytes. -/
structure LZ (w W : World) (g1 g2 : Nat) (p : Pg) : Prop where
  below : Below w.heap.size w W
  pg : PgAt W g1 0 p
  res : Buf W g2 zero64
  l1 : g1 < W.heap.size
  ge2 : w.heap.size ≤ g2

theorem LZ.step {w W W' : World} {g1 g2 : Nat} {p : Pg} (h : LZ w W g1 g2 p) (hb : Below W.heap.size W W') : LZ w W' g1 g2 p :=
  ⟨h.below.trans (hb.mono h.below.size), h.pg.below hb h.l1, h.res.step hb, Nat.lt_of_lt_of_le h.l1 hb.size, h.ge2⟩

theorem LZ.start (w : World) (p : Pg) (c1 c2 : Array Value) (t1 t2 : TypeId) (h1 : c1 = #[.int .u32 p.ep, .int .u32 p.nu, .int .i64 p.ki, .bool p.fi, .bool p.la, .string ⟨p.da.toArray⟩])
    (h2 : c2 = (zero64.map bv).toArray) : LZ w ((w.alloc (.cells c1 t1)).alloc (.cells c2 t2)) w.heap.size (w.heap.size + 1) p := by
  have h := LY.start w p c1 c2 t1 t2 h1 h2
  exact ⟨h.below, h.pg, h.res, h.l1, h.ge2⟩

/-- The worlds of the last loop. -/
structure LV (w W : World) (g2 g5 : Nat) (bs : List UInt8) : Prop where
  below : Below w.heap.size w W
  res : Buf W g2 zero64
  buf : Buf W g5 bs
  ge2 : w.heap.size ≤ g2
  ne : g2 < g5
theorem LV.start {w W : World} {g1 g2 : Nat} {p : Pg} (h : LZ w W g1 g2 p) (c : Array Value) (t : TypeId) (hc : c = (zero64.map bv).toArray) : LV w (W.alloc (.cells c t)) g2 W.heap.size zero64 :=
  ⟨(h.step ((Below.refl _ _).alloc (Nat.le_refl _) _)).below, h.res.alloc _, Buf.new W zero64 c t hc zero64_length, h.ge2, h.res.lt⟩
theorem LV.set {w W : World} {g2 g5 : Nat} {bs : List UInt8} (h : LV w W g2 g5 bs) (j : Nat) (x : UInt8) : LV w (W.setCell ⟨g5, j, none⟩ (bv x)) g2 g5 (bs.set j x) :=
  ⟨h.below.setCell (Nat.le_of_lt (Nat.lt_of_le_of_lt h.ge2 h.ne)) _, h.res.far (by have := h.ne; omega) j [bv x], h.buf.set j x, h.ge2, h.ne⟩

theorem app_bytes (x y : List UInt8) : (⟨x.toArray⟩ : ByteArray) ++ (⟨y.toArray⟩ : ByteArray) = ⟨(x ++ y).toArray⟩ := by
  apply ByteArray.ext
  simp
theorem size_bytes (x : List UInt8) : (⟨x.toArray⟩ : ByteArray).size = x.length := by simp [ByteArray.size]

theorem wrap_u8 (n : Nat) (h : n < 256) : IntKind.u8.wrap (n : Int) = n := by
  simp [IntKind.wrap, IntKind.signed, IntKind.bits]; omega

theorem marks_nat (p : Pg) : (marks p).toNat = (if p.fi then 1 else 0) + (if p.la then 2 else 0) := by
  unfold marks
  cases p.fi <;> cases p.la <;> decide

set_option maxRecDepth 100000 in
set_option maxHeartbeats 4000000 in
theorem reflay_any (p : Pg) (hr : p.right = true) (he : p.ep < 4294967296) (hn : p.nu < 4294967296) (w : World) :
    Calls Try.prog 62 #[.agg #[.int .u32 p.ep, .int .u32 p.nu, .int .i64 p.ki, .bool p.fi, .bool p.la, .string ⟨p.da.toArray⟩]] w fun r w' => r = .returned (pgB (layB p)) ∧ Below w.heap.size w w' := by
  obtain ⟨hk, hd1, hd2⟩ := right_ki p hr
  have L0 := Lib.hid (fun c2 t1 t2 h2 => LZ.start w p _ c2 t1 t2 rfl h2)
  have F1 := Lib.hid (fun W => reffour_any p.ep he W)
  have F2 := Lib.hid (fun W => reffour_any p.nu hn W)
  obtain ⟨ki, hki, hkb⟩ : ∃ ki : Nat, p.ki = ki ∧ ki < 256 := ⟨p.ki.toNat, by omega, by omega⟩
  have HKI := Lib.hid hki
  clear hki
  go_enter Try.func62, Try.ntmps62
  go_upto_region 2 with fail
  refine wp_gate (fun W => LZ w W w.heap.size (w.heap.size + 1) p) (L0.out _ _ _ (by rfl)) ?_
  clear L0
  intro W1 hL
  generalize hg1 : w.heap.size = g1 at hL ⊢
  generalize g1 + 1 = g2 at *
  have c3 := hL.pg.c3
  have c4 := hL.pg.c4
  simp only [Nat.zero_add] at c3 c4
  have HL := Lib.hid hL
  clear hL
  generalize (Value.agg #[.int .u32 p.ep, .int .u32 p.nu, .int .i64 p.ki, .bool p.fi, .bool p.la, .string ⟨p.da.toArray⟩]) = v0
  go_upto_if 8 with fail
  go_cut [3] from 7 to 14 (fun a3 wx => a3 = .int .i64 (if p.fi then 1 else 0) ∧ wx = W1)
  case first =>
    go_wp2_with fail
    all_goals go_meet
    all_goals exact ⟨by simp [*], rfl⟩
  case rest =>
    obtain ⟨rfl, e1⟩ := hcut
    rw [e1]
    clear e1
    go_upto_if 12 with fail
    go_cut [3] from 7 to 14 (fun a3 wx => a3 = .int .i64 ((marks p).toNat : Int) ∧ wx = W1)
    case first =>
      go_wp2_with fail
      all_goals go_meet
      all_goals exact ⟨by rw [marks_nat]; simp [*]; try (split <;> rfl), rfl⟩
    case rest =>
      obtain ⟨rfl, e1⟩ := hcut
      rw [e1]
      clear e1 c3 c4
      obtain ⟨mk, hmk⟩ : ∃ mk, (marks p).toNat = mk := ⟨_, rfl⟩
      rw [hmk]
      have hmb : mk < 256 := by rw [← hmk]; exact (marks p).toNat_lt
      have hw1 : IntKind.u8.wrap (ki : Int) = ki := wrap_u8 ki hkb
      have hw2 : IntKind.u8.wrap (mk : Int) = mk := wrap_u8 mk hmb
      have hw3 : IntKind.u8.wrap (p.da.length : Int) = p.da.length := wrap_u8 p.da.length (by omega)
      have hcv : ∀ (W : World) (B : Nat), W.cell? ⟨B, 0, none⟩ = some (.int .u8 (ki : Int)) → W.cell? ⟨B, 1, none⟩ = some (.int .u8 (mk : Int)) → W.cell? ⟨B, 2, none⟩ = some (.int .u8 (p.da.length : Int)) →
          (convert 25 9 (.slice (some ⟨B, 0, none⟩) 3 3)).run Try.prog W = .ok (.string ⟨[UInt8.ofNat ki, UInt8.ofNat mk, UInt8.ofNat p.da.length].toArray⟩) W := fun W B h0 h1 h2 => by
        refine run_bytes_str (bs := [UInt8.ofNat ki, UInt8.ofNat mk, UInt8.ofNat p.da.length]) (fun j hj => ?_) rfl
        rw [Nat.zero_add]
        match j, hj with
        | 0, _ => rw [h0, ← bv_ofNat ki hkb]; rfl
        | 1, _ => rw [h1, ← bv_ofNat mk hmb]; rfl
        | 2, _ => rw [h2, ← bv_ofNat p.da.length (by omega)]; rfl
      have happ := app_bytes
      have hsizes := size_bytes
      obtain ⟨X, hX⟩ : ∃ X, four p.ep ++ four p.nu ++ [UInt8.ofNat ki, UInt8.ofNat mk, UInt8.ofNat p.da.length] ++ p.da = X := ⟨_, rfl⟩
      have HX := Lib.hid hX
      clear hX
      have hlf : ∀ x, (four x).length = 4 := four_length
      have hbig : ¬ (9223372036854775807 < 11 + p.da.length) := by omega
      have k0 := HL.out.pg.c0
      have k1 := HL.out.pg.c1
      have k2 := HL.out.pg.c2
      have k5 := HL.out.pg.c5
      rw [HKI.out] at k2
      simp only [Nat.zero_add] at k0 k1 k2 k5
      go_upto_region 6 with fail
      go_cut [4] from 7 to 36 (fun a4 wx => a4 = .string ⟨X.toArray⟩ ∧ LZ w wx g1 g2 p)
      case first =>
        refine wp_region_noPanic ?_
        refine wp_region_held_drew (S := (fun W => LZ w W g1 g2 p ∧ W.cell? ⟨g1, 0, none⟩ = some (.int .u32 p.ep) ∧ W.cell? ⟨g1, 1, none⟩ = some (.int .u32 p.nu) ∧ W.cell? ⟨g1, 2, none⟩ = some (.int .i64 (ki : Int)) ∧ W.cell? ⟨g1, 5, none⟩ = some (.string ⟨p.da.toArray⟩))) (by kernel_rfl) ?_ (fun hH0 => ?_)
        · try dsimp only
          (first | (refine ⟨LZ.step HL.out (Below.refl _ _).drew, ?_, ?_, ?_, ?_⟩ <;> go_keep) | exact ⟨by assumption, by assumption, by assumption, by assumption, by assumption⟩ | (go_split_ands; exact ⟨by assumption, by assumption, by assumption, by assumption, by assumption⟩) | (refine ⟨LZ.step (by go_split_ands; assumption) ((Below.refl _ _).alloc (Nat.le_refl _) _), ?_, ?_, ?_, ?_⟩ <;> go_keep))
        refine wpAnyH_take (i := 0) (oi := { dst := some 15, op := Op.fieldAddr 42 (Operand.tmp 1) 0, type := 0, pos := "ref.go:31", after := #[], guard := none }) (v := ?va0) rfl (by kernel_rfl) (by kernel_rfl) (by kernel_rfl) (fun _ _ _ h => h) (Or.inl ⟨by rfl, ?hy0⟩) (by assumption) ?rest0
        case hy0 => (intro w hSw; (try dsimp only at hSw); go_simp; try with_reducible rfl)
        try simp only [Act.put, List.setIfInBounds_toArray, List.set_cons_zero, List.set_cons_succ]
        refine wpAnyH_take (i := 1) (oi := { dst := some 16, op := Op.load 23 (Operand.tmp 15), type := 23, pos := "ref.go:31", after := #[{ on := 0, ground := Ground.data }], guard := none }) (v := ?va3) rfl (by kernel_rfl) (by kernel_rfl) (by kernel_rfl) (fun _ _ _ h => h) (Or.inl ⟨by rfl, ?hy3⟩) (by assumption) ?rest3
        case hy3 => (intro w hSw; (try dsimp only at hSw); go_simp; try with_reducible rfl)
        try simp only [Act.put, List.setIfInBounds_toArray, List.set_cons_zero, List.set_cons_succ]
        refine wpAnyH_take (i := 3) (oi := { dst := some 18, op := Op.fieldAddr 42 (Operand.tmp 1) 1, type := 0, pos := "ref.go:31", after := #[], guard := none }) (v := ?va6) rfl (by kernel_rfl) (by kernel_rfl) (by kernel_rfl) (fun _ _ _ h => h) (Or.inl ⟨by rfl, ?hy6⟩) (by assumption) ?rest6
        case hy6 => (intro w hSw; (try dsimp only at hSw); go_simp; try with_reducible rfl)
        try simp only [Act.put, List.setIfInBounds_toArray, List.set_cons_zero, List.set_cons_succ]
        refine wpAnyH_take (i := 4) (oi := { dst := some 19, op := Op.load 23 (Operand.tmp 18), type := 23, pos := "ref.go:31", after := #[{ on := 3, ground := Ground.data }], guard := none }) (v := ?va9) rfl (by kernel_rfl) (by kernel_rfl) (by kernel_rfl) (fun _ _ _ h => h) (Or.inl ⟨by rfl, ?hy9⟩) (by assumption) ?rest9
        case hy9 => (intro w hSw; (try dsimp only at hSw); go_simp; try with_reducible rfl)
        try simp only [Act.put, List.setIfInBounds_toArray, List.set_cons_zero, List.set_cons_succ]
        refine wpAnyH_take (i := 7) (oi := { dst := some 22, op := Op.fieldAddr 42 (Operand.tmp 1) 2, type := 0, pos := "ref.go:31", after := #[], guard := none }) (v := ?va12) rfl (by kernel_rfl) (by kernel_rfl) (by kernel_rfl) (fun _ _ _ h => h) (Or.inl ⟨by rfl, ?hy12⟩) (by assumption) ?rest12
        case hy12 => (intro w hSw; (try dsimp only at hSw); go_simp; try with_reducible rfl)
        try simp only [Act.put, List.setIfInBounds_toArray, List.set_cons_zero, List.set_cons_succ]
        refine wpAnyH_take (i := 8) (oi := { dst := some 23, op := Op.load 3 (Operand.tmp 22), type := 3, pos := "ref.go:31", after := #[{ on := 7, ground := Ground.data }], guard := none }) (v := ?va15) rfl (by kernel_rfl) (by kernel_rfl) (by kernel_rfl) (fun _ _ _ h => h) (Or.inl ⟨by rfl, ?hy15⟩) (by assumption) ?rest15
        case hy15 => (intro w hSw; (try dsimp only at hSw); go_simp; try with_reducible rfl)
        try simp only [Act.put, List.setIfInBounds_toArray, List.set_cons_zero, List.set_cons_succ]
        refine wpAnyH_take (i := 9) (oi := { dst := some 24, op := Op.convert 3 5 (Operand.tmp 23), type := 5, pos := "ref.go:31", after := #[{ on := 8, ground := Ground.data }], guard := none }) (v := ?va18) rfl (by kernel_rfl) (by kernel_rfl) (by kernel_rfl) (fun _ _ _ h => h) (Or.inl ⟨by rfl, ?hy18⟩) (by assumption) ?rest18
        case hy18 => (intro w hSw; (try dsimp only at hSw); go_simp; try with_reducible rfl)
        try simp only [Act.put, List.setIfInBounds_toArray, List.set_cons_zero, List.set_cons_succ]
        refine wpAnyH_take (i := 10) (oi := { dst := some 25, op := Op.move (Operand.tmp 3), type := 3, pos := "ref.go:31", after := #[], guard := none }) (v := ?va21) rfl (by kernel_rfl) (by kernel_rfl) (by kernel_rfl) (fun _ _ _ h => h) (Or.inl ⟨by rfl, ?hy21⟩) (by assumption) ?rest21
        case hy21 => (intro w hSw; (try dsimp only at hSw); go_simp; try with_reducible rfl)
        try simp only [Act.put, List.setIfInBounds_toArray, List.set_cons_zero, List.set_cons_succ]
        refine wpAnyH_take (i := 11) (oi := { dst := some 26, op := Op.convert 3 5 (Operand.tmp 25), type := 5, pos := "ref.go:31", after := #[{ on := 10, ground := Ground.data }], guard := none }) (v := ?va24) rfl (by kernel_rfl) (by kernel_rfl) (by kernel_rfl) (fun _ _ _ h => h) (Or.inl ⟨by rfl, ?hy24⟩) (by assumption) ?rest24
        case hy24 => (intro w hSw; (try dsimp only at hSw); go_simp; try with_reducible rfl)
        try simp only [Act.put, List.setIfInBounds_toArray, List.set_cons_zero, List.set_cons_succ]
        refine wpAnyH_take (i := 12) (oi := { dst := some 27, op := Op.fieldAddr 42 (Operand.tmp 1) 5, type := 0, pos := "ref.go:31", after := #[], guard := none }) (v := ?va27) rfl (by kernel_rfl) (by kernel_rfl) (by kernel_rfl) (fun _ _ _ h => h) (Or.inl ⟨by rfl, ?hy27⟩) (by assumption) ?rest27
        case hy27 => (intro w hSw; (try dsimp only at hSw); go_simp; try with_reducible rfl)
        try simp only [Act.put, List.setIfInBounds_toArray, List.set_cons_zero, List.set_cons_succ]
        refine wpAnyH_take (i := 13) (oi := { dst := some 28, op := Op.load 9 (Operand.tmp 27), type := 9, pos := "ref.go:31", after := #[{ on := 12, ground := Ground.data }], guard := none }) (v := ?va30) rfl (by kernel_rfl) (by kernel_rfl) (by kernel_rfl) (fun _ _ _ h => h) (Or.inl ⟨by rfl, ?hy30⟩) (by assumption) ?rest30
        case hy30 => (intro w hSw; (try dsimp only at hSw); go_simp; try with_reducible rfl)
        try simp only [Act.put, List.setIfInBounds_toArray, List.set_cons_zero, List.set_cons_succ]
        refine wpAnyH_take (i := 14) (oi := { dst := some 29, op := Op.call { callee := Callee.builtin Builtin.len, args := #[Operand.tmp 28], argTypes := #[9] }, type := 3, pos := "ref.go:31", after := #[{ on := 13, ground := Ground.data }], guard := none }) (v := ?va33) rfl (by kernel_rfl) (by kernel_rfl) (by kernel_rfl) (fun _ _ _ h => h) (Or.inl ⟨by rfl, ?hy33⟩) (by assumption) ?rest33
        case hy33 => (intro w hSw; (try dsimp only at hSw); go_simp; try with_reducible rfl)
        try simp only [Act.put, List.setIfInBounds_toArray, List.set_cons_zero, List.set_cons_succ]
        refine wpAnyH_take (i := 15) (oi := { dst := some 30, op := Op.convert 3 5 (Operand.tmp 29), type := 5, pos := "ref.go:31", after := #[{ on := 14, ground := Ground.data }], guard := none }) (v := ?va36) rfl (by kernel_rfl) (by kernel_rfl) (by kernel_rfl) (fun _ _ _ h => h) (Or.inl ⟨by rfl, ?hy36⟩) (by assumption) ?rest36
        case hy36 => (intro w hSw; (try dsimp only at hSw); go_simp; try with_reducible rfl)
        try simp only [Act.put, List.setIfInBounds_toArray, List.set_cons_zero, List.set_cons_succ]
        refine wpAnyH_take (i := 19) (oi := { dst := some 34, op := Op.fieldAddr 42 (Operand.tmp 1) 5, type := 0, pos := "ref.go:31", after := #[], guard := none }) (v := ?va39) rfl (by kernel_rfl) (by kernel_rfl) (by kernel_rfl) (fun _ _ _ h => h) (Or.inl ⟨by rfl, ?hy39⟩) (by assumption) ?rest39
        case hy39 => (intro w hSw; (try dsimp only at hSw); go_simp; try with_reducible rfl)
        try simp only [Act.put, List.setIfInBounds_toArray, List.set_cons_zero, List.set_cons_succ]
        refine wpAnyH_take (i := 20) (oi := { dst := some 35, op := Op.load 9 (Operand.tmp 34), type := 9, pos := "ref.go:31", after := #[{ on := 19, ground := Ground.data }], guard := none }) (v := ?va42) rfl (by kernel_rfl) (by kernel_rfl) (by kernel_rfl) (fun _ _ _ h => h) (Or.inl ⟨by rfl, ?hy42⟩) (by assumption) ?rest42
        case hy42 => (intro w hSw; (try dsimp only at hSw); go_simp; try with_reducible rfl)
        try simp only [Act.put, List.setIfInBounds_toArray, List.set_cons_zero, List.set_cons_succ]
        refine wpAnyH_ready (rs := [2, 16]) (by kernel_rfl) (by simp) ?_
        refine AllReadyH.cons (o := { dst := some 17, op := Op.call { callee := Callee.value (Operand.func 34), args := #[Operand.tmp 16], argTypes := #[23] }, type := 9, pos := "ref.go:31", after := #[{ on := 1, ground := Ground.data }], guard := none }) rfl (fun K hK => ?_) ?_
        · go_simp
          (go_at_call_of 34 (Value.int .u32 p.ep); refine (F1.out _).mono ?_; rintro e wA ⟨rfl, hb⟩; have hR5 := LZ.step (by go_split_ands; assumption) hb; have e0 := hR5.pg.c0; have e1 := hR5.pg.c1; have e2 := hR5.pg.c2; have e5 := hR5.pg.c5; rw [HKI.out] at e2; simp only [Nat.zero_add] at e0 e1 e2 e5; have ys := hb.size; (try simp at ys); have y0 := fun h => hb.cell (p := ⟨W1.heap.size, 0, none⟩) h; have y1 := fun h => hb.cell (p := ⟨W1.heap.size, 1, none⟩) h; have y2 := fun h => hb.cell (p := ⟨W1.heap.size, 2, none⟩) h; (try simp [World.cell?_alloc_new] at y0 y1 y2))
          refine hK.out _ _ ?_ (fun hH1 => ?_)
          · try dsimp only
            (first | (refine ⟨LZ.step HL.out (Below.refl _ _).drew, ?_, ?_, ?_, ?_⟩ <;> go_keep) | exact ⟨by assumption, by assumption, by assumption, by assumption, by assumption⟩ | (go_split_ands; exact ⟨by assumption, by assumption, by assumption, by assumption, by assumption⟩) | (refine ⟨LZ.step (by go_split_ands; assumption) ((Below.refl _ _).alloc (Nat.le_refl _) _), ?_, ?_, ?_, ?_⟩ <;> go_keep))
          · clear hK K
            try simp only [Act.put, List.setIfInBounds_toArray, List.set_cons_zero, List.set_cons_succ]
            try clear hH0
            refine wpAnyH_ready (rs := [5, 16]) (by kernel_rfl) (by simp) ?_
            refine AllReadyH.cons (o := { dst := some 20, op := Op.call { callee := Callee.value (Operand.func 34), args := #[Operand.tmp 19], argTypes := #[23] }, type := 9, pos := "ref.go:31", after := #[{ on := 4, ground := Ground.data }, { on := 2, ground := Ground.chain }], guard := none }) rfl (fun K hK => ?_) ?_
            · go_simp
              (go_at_call_of 34 (Value.int .u32 p.nu); refine (F2.out _).mono ?_; rintro e wB ⟨rfl, hb⟩; have hR5 := LZ.step (by go_split_ands; assumption) hb; have e0 := hR5.pg.c0; have e1 := hR5.pg.c1; have e2 := hR5.pg.c2; have e5 := hR5.pg.c5; rw [HKI.out] at e2; simp only [Nat.zero_add] at e0 e1 e2 e5; have zs := hb.size; (try simp at zs); have u0 := fun (h : W1.heap.size < _) (h2 : _ = some (Value.int .u8 (ki : Int))) => (hb.cell (p := ⟨W1.heap.size, 0, none⟩) h).trans h2; have v0 := fun (h : W1.heap.size + 1 ≤ _) (h2 : _ = some (Value.int .u8 (ki : Int))) => (hb.cell (p := ⟨W1.heap.size, 0, none⟩) (Nat.lt_of_succ_le h)).trans h2; have u1 := fun (h : W1.heap.size < _) (h2 : _ = some (Value.int .u8 (mk : Int))) => (hb.cell (p := ⟨W1.heap.size, 1, none⟩) h).trans h2; have v1 := fun (h : W1.heap.size + 1 ≤ _) (h2 : _ = some (Value.int .u8 (mk : Int))) => (hb.cell (p := ⟨W1.heap.size, 1, none⟩) (Nat.lt_of_succ_le h)).trans h2; have u2 := fun (h : W1.heap.size < _) (h2 : _ = some (Value.int .u8 (p.da.length : Int))) => (hb.cell (p := ⟨W1.heap.size, 2, none⟩) h).trans h2; have v2 := fun (h : W1.heap.size + 1 ≤ _) (h2 : _ = some (Value.int .u8 (p.da.length : Int))) => (hb.cell (p := ⟨W1.heap.size, 2, none⟩) (Nat.lt_of_succ_le h)).trans h2; have x0 := fun h => hb.cell (p := ⟨wA.heap.size, 0, none⟩) h; have x1 := fun h => hb.cell (p := ⟨wA.heap.size, 1, none⟩) h; have x2 := fun h => hb.cell (p := ⟨wA.heap.size, 2, none⟩) h; (try simp [World.cell?_alloc_new] at x0 x1 x2))
              refine hK.out _ _ ?_ (fun hH2 => ?_)
              · try dsimp only
                (first | (refine ⟨LZ.step HL.out (Below.refl _ _).drew, ?_, ?_, ?_, ?_⟩ <;> go_keep) | exact ⟨by assumption, by assumption, by assumption, by assumption, by assumption⟩ | (go_split_ands; exact ⟨by assumption, by assumption, by assumption, by assumption, by assumption⟩) | (refine ⟨LZ.step (by go_split_ands; assumption) ((Below.refl _ _).alloc (Nat.le_refl _) _), ?_, ?_, ?_, ?_⟩ <;> go_keep))
              · clear hK K
                try simp only [Act.put, List.setIfInBounds_toArray, List.set_cons_zero, List.set_cons_succ]
                try clear hH1
                refine wpAnyH_take (i := 6) (oi := { dst := some 21, op := Op.binOp BinOp.add 9 (Operand.tmp 17) (Operand.tmp 20) 9, type := 9, pos := "ref.go:31", after := #[{ on := 2, ground := Ground.data }, { on := 5, ground := Ground.data }], guard := none }) (v := ?va65) rfl (by kernel_rfl) (by kernel_rfl) (by kernel_rfl) (fun _ _ _ h => h) (Or.inl ⟨by rfl, ?hy65⟩) (by assumption) ?rest65
                case hy65 => (intro w hSw; (try dsimp only at hSw); go_simp; try with_reducible rfl)
                try simp only [Act.put, List.setIfInBounds_toArray, List.set_cons_zero, List.set_cons_succ]
                refine wpAnyH_ready (rs := [16]) (by kernel_rfl) (by simp) ?_
                refine AllReadyH.cons (o := { dst := some 31, op := Op.buildSlice 25 3 #[(0, Operand.tmp 24), (1, Operand.tmp 26), (2, Operand.tmp 30)], type := 25, pos := "ref.go:31", after := #[{ on := 9, ground := Ground.data }, { on := 11, ground := Ground.data }, { on := 15, ground := Ground.data }], guard := none }) rfl (fun K hK => ?_) ?_
                · go_simp
                  refine hK.out _ _ ?_ (fun hH3 => ?_)
                  · try dsimp only
                    (first | (refine ⟨LZ.step HL.out (Below.refl _ _).drew, ?_, ?_, ?_, ?_⟩ <;> go_keep) | exact ⟨by assumption, by assumption, by assumption, by assumption, by assumption⟩ | (go_split_ands; exact ⟨by assumption, by assumption, by assumption, by assumption, by assumption⟩) | (refine ⟨LZ.step (by go_split_ands; assumption) ((Below.refl _ _).alloc (Nat.le_refl _) _), ?_, ?_, ?_, ?_⟩ <;> go_keep))
                  · clear hK K
                    try simp only [Act.put, List.setIfInBounds_toArray, List.set_cons_zero, List.set_cons_succ]
                    try clear hH2
                    refine wpAnyH_ready (rs := [17]) (by kernel_rfl) (by simp) ?_
                    refine AllReadyH.cons (o := { dst := some 32, op := Op.convert 25 9 (Operand.tmp 31), type := 9, pos := "ref.go:31", after := #[{ on := 16, ground := Ground.data }], guard := none }) rfl (fun K hK => ?_) ?_
                    · go_simp
                      refine hK.out _ _ ?_ (fun hH4 => ?_)
                      · try dsimp only
                        (first | (refine ⟨LZ.step HL.out (Below.refl _ _).drew, ?_, ?_, ?_, ?_⟩ <;> go_keep) | exact ⟨by assumption, by assumption, by assumption, by assumption, by assumption⟩ | (go_split_ands; exact ⟨by assumption, by assumption, by assumption, by assumption, by assumption⟩) | (refine ⟨LZ.step (by go_split_ands; assumption) ((Below.refl _ _).alloc (Nat.le_refl _) _), ?_, ?_, ?_, ?_⟩ <;> go_keep))
                      · clear hK K
                        try simp only [Act.put, List.setIfInBounds_toArray, List.set_cons_zero, List.set_cons_succ]
                        try clear hH3
                        refine wpAnyH_take (i := 18) (oi := { dst := some 33, op := Op.binOp BinOp.add 9 (Operand.tmp 21) (Operand.tmp 32) 9, type := 9, pos := "ref.go:31", after := #[{ on := 6, ground := Ground.data }, { on := 17, ground := Ground.data }], guard := none }) (v := ?va86) rfl (by kernel_rfl) (by kernel_rfl) (by kernel_rfl) (fun _ _ _ h => h) (Or.inl ⟨by rfl, ?hy86⟩) (by assumption) ?rest86
                        case hy86 => (intro w hSw; (try dsimp only at hSw); go_simp; try with_reducible rfl)
                        try simp only [Act.put, List.setIfInBounds_toArray, List.set_cons_zero, List.set_cons_succ]
                        refine wpAnyH_ready (rs := [21]) (by kernel_rfl) (by simp) ?_
                        refine AllReadyH.cons (o := { dst := some 36, op := Op.binOp BinOp.add 9 (Operand.tmp 33) (Operand.tmp 35) 9, type := 9, pos := "ref.go:31", after := #[{ on := 18, ground := Ground.data }, { on := 20, ground := Ground.data }], guard := none }) rfl (fun K hK => ?_) ?_
                        · go_simp
                          refine hK.out _ _ ?_ (fun hH5 => ?_)
                          · try dsimp only
                            (first | (refine ⟨LZ.step HL.out (Below.refl _ _).drew, ?_, ?_, ?_, ?_⟩ <;> go_keep) | exact ⟨by assumption, by assumption, by assumption, by assumption, by assumption⟩ | (go_split_ands; exact ⟨by assumption, by assumption, by assumption, by assumption, by assumption⟩) | (refine ⟨LZ.step (by go_split_ands; assumption) ((Below.refl _ _).alloc (Nat.le_refl _) _), ?_, ?_, ?_, ?_⟩ <;> go_keep))
                          · clear hK K
                            try simp only [Act.put, List.setIfInBounds_toArray, List.set_cons_zero, List.set_cons_succ]
                            try clear hH4
                            refine wpAnyH_take (i := 22) (oi := { dst := some 4, op := Op.assign (Operand.tmp 36), type := 9, pos := "ref.go:31", after := #[{ on := 21, ground := Ground.data }, { on := 5, ground := Ground.chain }, { on := 0, ground := Ground.phase }, { on := 1, ground := Ground.phase }, { on := 2, ground := Ground.phase }, { on := 3, ground := Ground.phase }, { on := 4, ground := Ground.phase }, { on := 5, ground := Ground.phase }, { on := 6, ground := Ground.phase }, { on := 7, ground := Ground.phase }, { on := 8, ground := Ground.phase }, { on := 9, ground := Ground.phase }, { on := 10, ground := Ground.phase }, { on := 11, ground := Ground.phase }, { on := 12, ground := Ground.phase }, { on := 13, ground := Ground.phase }, { on := 14, ground := Ground.phase }, { on := 15, ground := Ground.phase }, { on := 16, ground := Ground.phase }, { on := 17, ground := Ground.phase }, { on := 18, ground := Ground.phase }, { on := 19, ground := Ground.phase }, { on := 20, ground := Ground.phase }, { on := 21, ground := Ground.phase }], guard := none }) (v := ?va98) rfl (by kernel_rfl) (by kernel_rfl) (by kernel_rfl) (fun _ _ _ h => h) (Or.inl ⟨by rfl, ?hy98⟩) (by assumption) ?rest98
                            case hy98 => (intro w hSw; (try dsimp only at hSw); go_simp; try with_reducible rfl)
                            try simp only [Act.put, List.setIfInBounds_toArray, List.set_cons_zero, List.set_cons_succ]
                            refine wpAnyH_done (by kernel_rfl) ?_ _
                            refine NoPanic.normal ?_
                            go_wp2_with fail
                            go_meet
                            refine ⟨by simp [← HX.out], ?_⟩
                            go_split_ands
                            assumption
                        exact AllReadyH.nil
                    exact AllReadyH.nil
                exact AllReadyH.nil
            refine AllReadyH.cons (o := { dst := some 31, op := Op.buildSlice 25 3 #[(0, Operand.tmp 24), (1, Operand.tmp 26), (2, Operand.tmp 30)], type := 25, pos := "ref.go:31", after := #[{ on := 9, ground := Ground.data }, { on := 11, ground := Ground.data }, { on := 15, ground := Ground.data }], guard := none }) rfl (fun K hK => ?_) ?_
            · go_simp
              refine hK.out _ _ ?_ (fun hH6 => ?_)
              · try dsimp only
                (first | (refine ⟨LZ.step HL.out (Below.refl _ _).drew, ?_, ?_, ?_, ?_⟩ <;> go_keep) | exact ⟨by assumption, by assumption, by assumption, by assumption, by assumption⟩ | (go_split_ands; exact ⟨by assumption, by assumption, by assumption, by assumption, by assumption⟩) | (refine ⟨LZ.step (by go_split_ands; assumption) ((Below.refl _ _).alloc (Nat.le_refl _) _), ?_, ?_, ?_, ?_⟩ <;> go_keep))
              · clear hK K
                try simp only [Act.put, List.setIfInBounds_toArray, List.set_cons_zero, List.set_cons_succ]
                try clear hH1
                refine wpAnyH_ready (rs := [5, 17]) (by kernel_rfl) (by simp) ?_
                refine AllReadyH.cons (o := { dst := some 20, op := Op.call { callee := Callee.value (Operand.func 34), args := #[Operand.tmp 19], argTypes := #[23] }, type := 9, pos := "ref.go:31", after := #[{ on := 4, ground := Ground.data }, { on := 2, ground := Ground.chain }], guard := none }) rfl (fun K hK => ?_) ?_
                · go_simp
                  (go_at_call_of 34 (Value.int .u32 p.nu); refine (F2.out _).mono ?_; rintro e wB ⟨rfl, hb⟩; have hR5 := LZ.step (by go_split_ands; assumption) hb; have e0 := hR5.pg.c0; have e1 := hR5.pg.c1; have e2 := hR5.pg.c2; have e5 := hR5.pg.c5; rw [HKI.out] at e2; simp only [Nat.zero_add] at e0 e1 e2 e5; have zs := hb.size; (try simp at zs); have u0 := fun (h : W1.heap.size < _) (h2 : _ = some (Value.int .u8 (ki : Int))) => (hb.cell (p := ⟨W1.heap.size, 0, none⟩) h).trans h2; have v0 := fun (h : W1.heap.size + 1 ≤ _) (h2 : _ = some (Value.int .u8 (ki : Int))) => (hb.cell (p := ⟨W1.heap.size, 0, none⟩) (Nat.lt_of_succ_le h)).trans h2; have u1 := fun (h : W1.heap.size < _) (h2 : _ = some (Value.int .u8 (mk : Int))) => (hb.cell (p := ⟨W1.heap.size, 1, none⟩) h).trans h2; have v1 := fun (h : W1.heap.size + 1 ≤ _) (h2 : _ = some (Value.int .u8 (mk : Int))) => (hb.cell (p := ⟨W1.heap.size, 1, none⟩) (Nat.lt_of_succ_le h)).trans h2; have u2 := fun (h : W1.heap.size < _) (h2 : _ = some (Value.int .u8 (p.da.length : Int))) => (hb.cell (p := ⟨W1.heap.size, 2, none⟩) h).trans h2; have v2 := fun (h : W1.heap.size + 1 ≤ _) (h2 : _ = some (Value.int .u8 (p.da.length : Int))) => (hb.cell (p := ⟨W1.heap.size, 2, none⟩) (Nat.lt_of_succ_le h)).trans h2; have x0 := fun h => hb.cell (p := ⟨wA.heap.size, 0, none⟩) h; have x1 := fun h => hb.cell (p := ⟨wA.heap.size, 1, none⟩) h; have x2 := fun h => hb.cell (p := ⟨wA.heap.size, 2, none⟩) h; (try simp [World.cell?_alloc_new] at x0 x1 x2))
                  refine hK.out _ _ ?_ (fun hH7 => ?_)
                  · try dsimp only
                    (first | (refine ⟨LZ.step HL.out (Below.refl _ _).drew, ?_, ?_, ?_, ?_⟩ <;> go_keep) | exact ⟨by assumption, by assumption, by assumption, by assumption, by assumption⟩ | (go_split_ands; exact ⟨by assumption, by assumption, by assumption, by assumption, by assumption⟩) | (refine ⟨LZ.step (by go_split_ands; assumption) ((Below.refl _ _).alloc (Nat.le_refl _) _), ?_, ?_, ?_, ?_⟩ <;> go_keep))
                  · clear hK K
                    try simp only [Act.put, List.setIfInBounds_toArray, List.set_cons_zero, List.set_cons_succ]
                    try clear hH6
                    refine wpAnyH_take (i := 6) (oi := { dst := some 21, op := Op.binOp BinOp.add 9 (Operand.tmp 17) (Operand.tmp 20) 9, type := 9, pos := "ref.go:31", after := #[{ on := 2, ground := Ground.data }, { on := 5, ground := Ground.data }], guard := none }) (v := ?va129) rfl (by kernel_rfl) (by kernel_rfl) (by kernel_rfl) (fun _ _ _ h => h) (Or.inl ⟨by rfl, ?hy129⟩) (by assumption) ?rest129
                    case hy129 => (intro w hSw; (try dsimp only at hSw); go_simp; try with_reducible rfl)
                    try simp only [Act.put, List.setIfInBounds_toArray, List.set_cons_zero, List.set_cons_succ]
                    refine wpAnyH_ready (rs := [17]) (by kernel_rfl) (by simp) ?_
                    refine AllReadyH.cons (o := { dst := some 32, op := Op.convert 25 9 (Operand.tmp 31), type := 9, pos := "ref.go:31", after := #[{ on := 16, ground := Ground.data }], guard := none }) rfl (fun K hK => ?_) ?_
                    · go_simp
                      refine hK.out _ _ ?_ (fun hH8 => ?_)
                      · try dsimp only
                        (first | (refine ⟨LZ.step HL.out (Below.refl _ _).drew, ?_, ?_, ?_, ?_⟩ <;> go_keep) | exact ⟨by assumption, by assumption, by assumption, by assumption, by assumption⟩ | (go_split_ands; exact ⟨by assumption, by assumption, by assumption, by assumption, by assumption⟩) | (refine ⟨LZ.step (by go_split_ands; assumption) ((Below.refl _ _).alloc (Nat.le_refl _) _), ?_, ?_, ?_, ?_⟩ <;> go_keep))
                      · clear hK K
                        try simp only [Act.put, List.setIfInBounds_toArray, List.set_cons_zero, List.set_cons_succ]
                        try clear hH7
                        refine wpAnyH_take (i := 18) (oi := { dst := some 33, op := Op.binOp BinOp.add 9 (Operand.tmp 21) (Operand.tmp 32) 9, type := 9, pos := "ref.go:31", after := #[{ on := 6, ground := Ground.data }, { on := 17, ground := Ground.data }], guard := none }) (v := ?va141) rfl (by kernel_rfl) (by kernel_rfl) (by kernel_rfl) (fun _ _ _ h => h) (Or.inl ⟨by rfl, ?hy141⟩) (by assumption) ?rest141
                        case hy141 => (intro w hSw; (try dsimp only at hSw); go_simp; try with_reducible rfl)
                        try simp only [Act.put, List.setIfInBounds_toArray, List.set_cons_zero, List.set_cons_succ]
                        refine wpAnyH_ready (rs := [21]) (by kernel_rfl) (by simp) ?_
                        refine AllReadyH.cons (o := { dst := some 36, op := Op.binOp BinOp.add 9 (Operand.tmp 33) (Operand.tmp 35) 9, type := 9, pos := "ref.go:31", after := #[{ on := 18, ground := Ground.data }, { on := 20, ground := Ground.data }], guard := none }) rfl (fun K hK => ?_) ?_
                        · go_simp
                          refine hK.out _ _ ?_ (fun hH9 => ?_)
                          · try dsimp only
                            (first | (refine ⟨LZ.step HL.out (Below.refl _ _).drew, ?_, ?_, ?_, ?_⟩ <;> go_keep) | exact ⟨by assumption, by assumption, by assumption, by assumption, by assumption⟩ | (go_split_ands; exact ⟨by assumption, by assumption, by assumption, by assumption, by assumption⟩) | (refine ⟨LZ.step (by go_split_ands; assumption) ((Below.refl _ _).alloc (Nat.le_refl _) _), ?_, ?_, ?_, ?_⟩ <;> go_keep))
                          · clear hK K
                            try simp only [Act.put, List.setIfInBounds_toArray, List.set_cons_zero, List.set_cons_succ]
                            try clear hH8
                            refine wpAnyH_take (i := 22) (oi := { dst := some 4, op := Op.assign (Operand.tmp 36), type := 9, pos := "ref.go:31", after := #[{ on := 21, ground := Ground.data }, { on := 5, ground := Ground.chain }, { on := 0, ground := Ground.phase }, { on := 1, ground := Ground.phase }, { on := 2, ground := Ground.phase }, { on := 3, ground := Ground.phase }, { on := 4, ground := Ground.phase }, { on := 5, ground := Ground.phase }, { on := 6, ground := Ground.phase }, { on := 7, ground := Ground.phase }, { on := 8, ground := Ground.phase }, { on := 9, ground := Ground.phase }, { on := 10, ground := Ground.phase }, { on := 11, ground := Ground.phase }, { on := 12, ground := Ground.phase }, { on := 13, ground := Ground.phase }, { on := 14, ground := Ground.phase }, { on := 15, ground := Ground.phase }, { on := 16, ground := Ground.phase }, { on := 17, ground := Ground.phase }, { on := 18, ground := Ground.phase }, { on := 19, ground := Ground.phase }, { on := 20, ground := Ground.phase }, { on := 21, ground := Ground.phase }], guard := none }) (v := ?va153) rfl (by kernel_rfl) (by kernel_rfl) (by kernel_rfl) (fun _ _ _ h => h) (Or.inl ⟨by rfl, ?hy153⟩) (by assumption) ?rest153
                            case hy153 => (intro w hSw; (try dsimp only at hSw); go_simp; try with_reducible rfl)
                            try simp only [Act.put, List.setIfInBounds_toArray, List.set_cons_zero, List.set_cons_succ]
                            refine wpAnyH_done (by kernel_rfl) ?_ _
                            refine NoPanic.normal ?_
                            go_wp2_with fail
                            go_meet
                            refine ⟨by simp [← HX.out], ?_⟩
                            go_split_ands
                            assumption
                        exact AllReadyH.nil
                    exact AllReadyH.nil
                refine AllReadyH.cons (o := { dst := some 32, op := Op.convert 25 9 (Operand.tmp 31), type := 9, pos := "ref.go:31", after := #[{ on := 16, ground := Ground.data }], guard := none }) rfl (fun K hK => ?_) ?_
                · go_simp
                  refine hK.out _ _ ?_ (fun hH10 => ?_)
                  · try dsimp only
                    (first | (refine ⟨LZ.step HL.out (Below.refl _ _).drew, ?_, ?_, ?_, ?_⟩ <;> go_keep) | exact ⟨by assumption, by assumption, by assumption, by assumption, by assumption⟩ | (go_split_ands; exact ⟨by assumption, by assumption, by assumption, by assumption, by assumption⟩) | (refine ⟨LZ.step (by go_split_ands; assumption) ((Below.refl _ _).alloc (Nat.le_refl _) _), ?_, ?_, ?_, ?_⟩ <;> go_keep))
                  · clear hK K
                    try simp only [Act.put, List.setIfInBounds_toArray, List.set_cons_zero, List.set_cons_succ]
                    try clear hH6
                    refine wpAnyH_ready (rs := [5]) (by kernel_rfl) (by simp) ?_
                    refine AllReadyH.cons (o := { dst := some 20, op := Op.call { callee := Callee.value (Operand.func 34), args := #[Operand.tmp 19], argTypes := #[23] }, type := 9, pos := "ref.go:31", after := #[{ on := 4, ground := Ground.data }, { on := 2, ground := Ground.chain }], guard := none }) rfl (fun K hK => ?_) ?_
                    · go_simp
                      (go_at_call_of 34 (Value.int .u32 p.nu); refine (F2.out _).mono ?_; rintro e wB ⟨rfl, hb⟩; have hR5 := LZ.step (by go_split_ands; assumption) hb; have e0 := hR5.pg.c0; have e1 := hR5.pg.c1; have e2 := hR5.pg.c2; have e5 := hR5.pg.c5; rw [HKI.out] at e2; simp only [Nat.zero_add] at e0 e1 e2 e5; have zs := hb.size; (try simp at zs); have u0 := fun (h : W1.heap.size < _) (h2 : _ = some (Value.int .u8 (ki : Int))) => (hb.cell (p := ⟨W1.heap.size, 0, none⟩) h).trans h2; have v0 := fun (h : W1.heap.size + 1 ≤ _) (h2 : _ = some (Value.int .u8 (ki : Int))) => (hb.cell (p := ⟨W1.heap.size, 0, none⟩) (Nat.lt_of_succ_le h)).trans h2; have u1 := fun (h : W1.heap.size < _) (h2 : _ = some (Value.int .u8 (mk : Int))) => (hb.cell (p := ⟨W1.heap.size, 1, none⟩) h).trans h2; have v1 := fun (h : W1.heap.size + 1 ≤ _) (h2 : _ = some (Value.int .u8 (mk : Int))) => (hb.cell (p := ⟨W1.heap.size, 1, none⟩) (Nat.lt_of_succ_le h)).trans h2; have u2 := fun (h : W1.heap.size < _) (h2 : _ = some (Value.int .u8 (p.da.length : Int))) => (hb.cell (p := ⟨W1.heap.size, 2, none⟩) h).trans h2; have v2 := fun (h : W1.heap.size + 1 ≤ _) (h2 : _ = some (Value.int .u8 (p.da.length : Int))) => (hb.cell (p := ⟨W1.heap.size, 2, none⟩) (Nat.lt_of_succ_le h)).trans h2; have x0 := fun h => hb.cell (p := ⟨wA.heap.size, 0, none⟩) h; have x1 := fun h => hb.cell (p := ⟨wA.heap.size, 1, none⟩) h; have x2 := fun h => hb.cell (p := ⟨wA.heap.size, 2, none⟩) h; (try simp [World.cell?_alloc_new] at x0 x1 x2))
                      refine hK.out _ _ ?_ (fun hH11 => ?_)
                      · try dsimp only
                        (first | (refine ⟨LZ.step HL.out (Below.refl _ _).drew, ?_, ?_, ?_, ?_⟩ <;> go_keep) | exact ⟨by assumption, by assumption, by assumption, by assumption, by assumption⟩ | (go_split_ands; exact ⟨by assumption, by assumption, by assumption, by assumption, by assumption⟩) | (refine ⟨LZ.step (by go_split_ands; assumption) ((Below.refl _ _).alloc (Nat.le_refl _) _), ?_, ?_, ?_, ?_⟩ <;> go_keep))
                      · clear hK K
                        try simp only [Act.put, List.setIfInBounds_toArray, List.set_cons_zero, List.set_cons_succ]
                        try clear hH10
                        refine wpAnyH_take (i := 6) (oi := { dst := some 21, op := Op.binOp BinOp.add 9 (Operand.tmp 17) (Operand.tmp 20) 9, type := 9, pos := "ref.go:31", after := #[{ on := 2, ground := Ground.data }, { on := 5, ground := Ground.data }], guard := none }) (v := ?va183) rfl (by kernel_rfl) (by kernel_rfl) (by kernel_rfl) (fun _ _ _ h => h) (Or.inl ⟨by rfl, ?hy183⟩) (by assumption) ?rest183
                        case hy183 => (intro w hSw; (try dsimp only at hSw); go_simp; try with_reducible rfl)
                        try simp only [Act.put, List.setIfInBounds_toArray, List.set_cons_zero, List.set_cons_succ]
                        refine wpAnyH_take (i := 18) (oi := { dst := some 33, op := Op.binOp BinOp.add 9 (Operand.tmp 21) (Operand.tmp 32) 9, type := 9, pos := "ref.go:31", after := #[{ on := 6, ground := Ground.data }, { on := 17, ground := Ground.data }], guard := none }) (v := ?va186) rfl (by kernel_rfl) (by kernel_rfl) (by kernel_rfl) (fun _ _ _ h => h) (Or.inl ⟨by rfl, ?hy186⟩) (by assumption) ?rest186
                        case hy186 => (intro w hSw; (try dsimp only at hSw); go_simp; try with_reducible rfl)
                        try simp only [Act.put, List.setIfInBounds_toArray, List.set_cons_zero, List.set_cons_succ]
                        refine wpAnyH_ready (rs := [21]) (by kernel_rfl) (by simp) ?_
                        refine AllReadyH.cons (o := { dst := some 36, op := Op.binOp BinOp.add 9 (Operand.tmp 33) (Operand.tmp 35) 9, type := 9, pos := "ref.go:31", after := #[{ on := 18, ground := Ground.data }, { on := 20, ground := Ground.data }], guard := none }) rfl (fun K hK => ?_) ?_
                        · go_simp
                          refine hK.out _ _ ?_ (fun hH12 => ?_)
                          · try dsimp only
                            (first | (refine ⟨LZ.step HL.out (Below.refl _ _).drew, ?_, ?_, ?_, ?_⟩ <;> go_keep) | exact ⟨by assumption, by assumption, by assumption, by assumption, by assumption⟩ | (go_split_ands; exact ⟨by assumption, by assumption, by assumption, by assumption, by assumption⟩) | (refine ⟨LZ.step (by go_split_ands; assumption) ((Below.refl _ _).alloc (Nat.le_refl _) _), ?_, ?_, ?_, ?_⟩ <;> go_keep))
                          · clear hK K
                            try simp only [Act.put, List.setIfInBounds_toArray, List.set_cons_zero, List.set_cons_succ]
                            try clear hH11
                            refine wpAnyH_take (i := 22) (oi := { dst := some 4, op := Op.assign (Operand.tmp 36), type := 9, pos := "ref.go:31", after := #[{ on := 21, ground := Ground.data }, { on := 5, ground := Ground.chain }, { on := 0, ground := Ground.phase }, { on := 1, ground := Ground.phase }, { on := 2, ground := Ground.phase }, { on := 3, ground := Ground.phase }, { on := 4, ground := Ground.phase }, { on := 5, ground := Ground.phase }, { on := 6, ground := Ground.phase }, { on := 7, ground := Ground.phase }, { on := 8, ground := Ground.phase }, { on := 9, ground := Ground.phase }, { on := 10, ground := Ground.phase }, { on := 11, ground := Ground.phase }, { on := 12, ground := Ground.phase }, { on := 13, ground := Ground.phase }, { on := 14, ground := Ground.phase }, { on := 15, ground := Ground.phase }, { on := 16, ground := Ground.phase }, { on := 17, ground := Ground.phase }, { on := 18, ground := Ground.phase }, { on := 19, ground := Ground.phase }, { on := 20, ground := Ground.phase }, { on := 21, ground := Ground.phase }], guard := none }) (v := ?va198) rfl (by kernel_rfl) (by kernel_rfl) (by kernel_rfl) (fun _ _ _ h => h) (Or.inl ⟨by rfl, ?hy198⟩) (by assumption) ?rest198
                            case hy198 => (intro w hSw; (try dsimp only at hSw); go_simp; try with_reducible rfl)
                            try simp only [Act.put, List.setIfInBounds_toArray, List.set_cons_zero, List.set_cons_succ]
                            refine wpAnyH_done (by kernel_rfl) ?_ _
                            refine NoPanic.normal ?_
                            go_wp2_with fail
                            go_meet
                            refine ⟨by simp [← HX.out], ?_⟩
                            go_split_ands
                            assumption
                        exact AllReadyH.nil
                    exact AllReadyH.nil
                exact AllReadyH.nil
            exact AllReadyH.nil
        refine AllReadyH.cons (o := { dst := some 31, op := Op.buildSlice 25 3 #[(0, Operand.tmp 24), (1, Operand.tmp 26), (2, Operand.tmp 30)], type := 25, pos := "ref.go:31", after := #[{ on := 9, ground := Ground.data }, { on := 11, ground := Ground.data }, { on := 15, ground := Ground.data }], guard := none }) rfl (fun K hK => ?_) ?_
        · go_simp
          refine hK.out _ _ ?_ (fun hH13 => ?_)
          · try dsimp only
            (first | (refine ⟨LZ.step HL.out (Below.refl _ _).drew, ?_, ?_, ?_, ?_⟩ <;> go_keep) | exact ⟨by assumption, by assumption, by assumption, by assumption, by assumption⟩ | (go_split_ands; exact ⟨by assumption, by assumption, by assumption, by assumption, by assumption⟩) | (refine ⟨LZ.step (by go_split_ands; assumption) ((Below.refl _ _).alloc (Nat.le_refl _) _), ?_, ?_, ?_, ?_⟩ <;> go_keep))
          · clear hK K
            try simp only [Act.put, List.setIfInBounds_toArray, List.set_cons_zero, List.set_cons_succ]
            try clear hH0
            refine wpAnyH_ready (rs := [2, 17]) (by kernel_rfl) (by simp) ?_
            refine AllReadyH.cons (o := { dst := some 17, op := Op.call { callee := Callee.value (Operand.func 34), args := #[Operand.tmp 16], argTypes := #[23] }, type := 9, pos := "ref.go:31", after := #[{ on := 1, ground := Ground.data }], guard := none }) rfl (fun K hK => ?_) ?_
            · go_simp
              (go_at_call_of 34 (Value.int .u32 p.ep); refine (F1.out _).mono ?_; rintro e wA ⟨rfl, hb⟩; have hR5 := LZ.step (by go_split_ands; assumption) hb; have e0 := hR5.pg.c0; have e1 := hR5.pg.c1; have e2 := hR5.pg.c2; have e5 := hR5.pg.c5; rw [HKI.out] at e2; simp only [Nat.zero_add] at e0 e1 e2 e5; have ys := hb.size; (try simp at ys); have y0 := fun h => hb.cell (p := ⟨W1.heap.size, 0, none⟩) h; have y1 := fun h => hb.cell (p := ⟨W1.heap.size, 1, none⟩) h; have y2 := fun h => hb.cell (p := ⟨W1.heap.size, 2, none⟩) h; (try simp [World.cell?_alloc_new] at y0 y1 y2))
              refine hK.out _ _ ?_ (fun hH14 => ?_)
              · try dsimp only
                (first | (refine ⟨LZ.step HL.out (Below.refl _ _).drew, ?_, ?_, ?_, ?_⟩ <;> go_keep) | exact ⟨by assumption, by assumption, by assumption, by assumption, by assumption⟩ | (go_split_ands; exact ⟨by assumption, by assumption, by assumption, by assumption, by assumption⟩) | (refine ⟨LZ.step (by go_split_ands; assumption) ((Below.refl _ _).alloc (Nat.le_refl _) _), ?_, ?_, ?_, ?_⟩ <;> go_keep))
              · clear hK K
                try simp only [Act.put, List.setIfInBounds_toArray, List.set_cons_zero, List.set_cons_succ]
                try clear hH13
                refine wpAnyH_ready (rs := [5, 17]) (by kernel_rfl) (by simp) ?_
                refine AllReadyH.cons (o := { dst := some 20, op := Op.call { callee := Callee.value (Operand.func 34), args := #[Operand.tmp 19], argTypes := #[23] }, type := 9, pos := "ref.go:31", after := #[{ on := 4, ground := Ground.data }, { on := 2, ground := Ground.chain }], guard := none }) rfl (fun K hK => ?_) ?_
                · go_simp
                  (go_at_call_of 34 (Value.int .u32 p.nu); refine (F2.out _).mono ?_; rintro e wB ⟨rfl, hb⟩; have hR5 := LZ.step (by go_split_ands; assumption) hb; have e0 := hR5.pg.c0; have e1 := hR5.pg.c1; have e2 := hR5.pg.c2; have e5 := hR5.pg.c5; rw [HKI.out] at e2; simp only [Nat.zero_add] at e0 e1 e2 e5; have zs := hb.size; (try simp at zs); have u0 := fun (h : W1.heap.size < _) (h2 : _ = some (Value.int .u8 (ki : Int))) => (hb.cell (p := ⟨W1.heap.size, 0, none⟩) h).trans h2; have v0 := fun (h : W1.heap.size + 1 ≤ _) (h2 : _ = some (Value.int .u8 (ki : Int))) => (hb.cell (p := ⟨W1.heap.size, 0, none⟩) (Nat.lt_of_succ_le h)).trans h2; have u1 := fun (h : W1.heap.size < _) (h2 : _ = some (Value.int .u8 (mk : Int))) => (hb.cell (p := ⟨W1.heap.size, 1, none⟩) h).trans h2; have v1 := fun (h : W1.heap.size + 1 ≤ _) (h2 : _ = some (Value.int .u8 (mk : Int))) => (hb.cell (p := ⟨W1.heap.size, 1, none⟩) (Nat.lt_of_succ_le h)).trans h2; have u2 := fun (h : W1.heap.size < _) (h2 : _ = some (Value.int .u8 (p.da.length : Int))) => (hb.cell (p := ⟨W1.heap.size, 2, none⟩) h).trans h2; have v2 := fun (h : W1.heap.size + 1 ≤ _) (h2 : _ = some (Value.int .u8 (p.da.length : Int))) => (hb.cell (p := ⟨W1.heap.size, 2, none⟩) (Nat.lt_of_succ_le h)).trans h2; have x0 := fun h => hb.cell (p := ⟨wA.heap.size, 0, none⟩) h; have x1 := fun h => hb.cell (p := ⟨wA.heap.size, 1, none⟩) h; have x2 := fun h => hb.cell (p := ⟨wA.heap.size, 2, none⟩) h; (try simp [World.cell?_alloc_new] at x0 x1 x2))
                  refine hK.out _ _ ?_ (fun hH15 => ?_)
                  · try dsimp only
                    (first | (refine ⟨LZ.step HL.out (Below.refl _ _).drew, ?_, ?_, ?_, ?_⟩ <;> go_keep) | exact ⟨by assumption, by assumption, by assumption, by assumption, by assumption⟩ | (go_split_ands; exact ⟨by assumption, by assumption, by assumption, by assumption, by assumption⟩) | (refine ⟨LZ.step (by go_split_ands; assumption) ((Below.refl _ _).alloc (Nat.le_refl _) _), ?_, ?_, ?_, ?_⟩ <;> go_keep))
                  · clear hK K
                    try simp only [Act.put, List.setIfInBounds_toArray, List.set_cons_zero, List.set_cons_succ]
                    try clear hH14
                    refine wpAnyH_take (i := 6) (oi := { dst := some 21, op := Op.binOp BinOp.add 9 (Operand.tmp 17) (Operand.tmp 20) 9, type := 9, pos := "ref.go:31", after := #[{ on := 2, ground := Ground.data }, { on := 5, ground := Ground.data }], guard := none }) (v := ?va240) rfl (by kernel_rfl) (by kernel_rfl) (by kernel_rfl) (fun _ _ _ h => h) (Or.inl ⟨by rfl, ?hy240⟩) (by assumption) ?rest240
                    case hy240 => (intro w hSw; (try dsimp only at hSw); go_simp; try with_reducible rfl)
                    try simp only [Act.put, List.setIfInBounds_toArray, List.set_cons_zero, List.set_cons_succ]
                    refine wpAnyH_ready (rs := [17]) (by kernel_rfl) (by simp) ?_
                    refine AllReadyH.cons (o := { dst := some 32, op := Op.convert 25 9 (Operand.tmp 31), type := 9, pos := "ref.go:31", after := #[{ on := 16, ground := Ground.data }], guard := none }) rfl (fun K hK => ?_) ?_
                    · go_simp
                      refine hK.out _ _ ?_ (fun hH16 => ?_)
                      · try dsimp only
                        (first | (refine ⟨LZ.step HL.out (Below.refl _ _).drew, ?_, ?_, ?_, ?_⟩ <;> go_keep) | exact ⟨by assumption, by assumption, by assumption, by assumption, by assumption⟩ | (go_split_ands; exact ⟨by assumption, by assumption, by assumption, by assumption, by assumption⟩) | (refine ⟨LZ.step (by go_split_ands; assumption) ((Below.refl _ _).alloc (Nat.le_refl _) _), ?_, ?_, ?_, ?_⟩ <;> go_keep))
                      · clear hK K
                        try simp only [Act.put, List.setIfInBounds_toArray, List.set_cons_zero, List.set_cons_succ]
                        try clear hH15
                        refine wpAnyH_take (i := 18) (oi := { dst := some 33, op := Op.binOp BinOp.add 9 (Operand.tmp 21) (Operand.tmp 32) 9, type := 9, pos := "ref.go:31", after := #[{ on := 6, ground := Ground.data }, { on := 17, ground := Ground.data }], guard := none }) (v := ?va252) rfl (by kernel_rfl) (by kernel_rfl) (by kernel_rfl) (fun _ _ _ h => h) (Or.inl ⟨by rfl, ?hy252⟩) (by assumption) ?rest252
                        case hy252 => (intro w hSw; (try dsimp only at hSw); go_simp; try with_reducible rfl)
                        try simp only [Act.put, List.setIfInBounds_toArray, List.set_cons_zero, List.set_cons_succ]
                        refine wpAnyH_ready (rs := [21]) (by kernel_rfl) (by simp) ?_
                        refine AllReadyH.cons (o := { dst := some 36, op := Op.binOp BinOp.add 9 (Operand.tmp 33) (Operand.tmp 35) 9, type := 9, pos := "ref.go:31", after := #[{ on := 18, ground := Ground.data }, { on := 20, ground := Ground.data }], guard := none }) rfl (fun K hK => ?_) ?_
                        · go_simp
                          refine hK.out _ _ ?_ (fun hH17 => ?_)
                          · try dsimp only
                            (first | (refine ⟨LZ.step HL.out (Below.refl _ _).drew, ?_, ?_, ?_, ?_⟩ <;> go_keep) | exact ⟨by assumption, by assumption, by assumption, by assumption, by assumption⟩ | (go_split_ands; exact ⟨by assumption, by assumption, by assumption, by assumption, by assumption⟩) | (refine ⟨LZ.step (by go_split_ands; assumption) ((Below.refl _ _).alloc (Nat.le_refl _) _), ?_, ?_, ?_, ?_⟩ <;> go_keep))
                          · clear hK K
                            try simp only [Act.put, List.setIfInBounds_toArray, List.set_cons_zero, List.set_cons_succ]
                            try clear hH16
                            refine wpAnyH_take (i := 22) (oi := { dst := some 4, op := Op.assign (Operand.tmp 36), type := 9, pos := "ref.go:31", after := #[{ on := 21, ground := Ground.data }, { on := 5, ground := Ground.chain }, { on := 0, ground := Ground.phase }, { on := 1, ground := Ground.phase }, { on := 2, ground := Ground.phase }, { on := 3, ground := Ground.phase }, { on := 4, ground := Ground.phase }, { on := 5, ground := Ground.phase }, { on := 6, ground := Ground.phase }, { on := 7, ground := Ground.phase }, { on := 8, ground := Ground.phase }, { on := 9, ground := Ground.phase }, { on := 10, ground := Ground.phase }, { on := 11, ground := Ground.phase }, { on := 12, ground := Ground.phase }, { on := 13, ground := Ground.phase }, { on := 14, ground := Ground.phase }, { on := 15, ground := Ground.phase }, { on := 16, ground := Ground.phase }, { on := 17, ground := Ground.phase }, { on := 18, ground := Ground.phase }, { on := 19, ground := Ground.phase }, { on := 20, ground := Ground.phase }, { on := 21, ground := Ground.phase }], guard := none }) (v := ?va264) rfl (by kernel_rfl) (by kernel_rfl) (by kernel_rfl) (fun _ _ _ h => h) (Or.inl ⟨by rfl, ?hy264⟩) (by assumption) ?rest264
                            case hy264 => (intro w hSw; (try dsimp only at hSw); go_simp; try with_reducible rfl)
                            try simp only [Act.put, List.setIfInBounds_toArray, List.set_cons_zero, List.set_cons_succ]
                            refine wpAnyH_done (by kernel_rfl) ?_ _
                            refine NoPanic.normal ?_
                            go_wp2_with fail
                            go_meet
                            refine ⟨by simp [← HX.out], ?_⟩
                            go_split_ands
                            assumption
                        exact AllReadyH.nil
                    exact AllReadyH.nil
                refine AllReadyH.cons (o := { dst := some 32, op := Op.convert 25 9 (Operand.tmp 31), type := 9, pos := "ref.go:31", after := #[{ on := 16, ground := Ground.data }], guard := none }) rfl (fun K hK => ?_) ?_
                · go_simp
                  refine hK.out _ _ ?_ (fun hH18 => ?_)
                  · try dsimp only
                    (first | (refine ⟨LZ.step HL.out (Below.refl _ _).drew, ?_, ?_, ?_, ?_⟩ <;> go_keep) | exact ⟨by assumption, by assumption, by assumption, by assumption, by assumption⟩ | (go_split_ands; exact ⟨by assumption, by assumption, by assumption, by assumption, by assumption⟩) | (refine ⟨LZ.step (by go_split_ands; assumption) ((Below.refl _ _).alloc (Nat.le_refl _) _), ?_, ?_, ?_, ?_⟩ <;> go_keep))
                  · clear hK K
                    try simp only [Act.put, List.setIfInBounds_toArray, List.set_cons_zero, List.set_cons_succ]
                    try clear hH14
                    refine wpAnyH_ready (rs := [5]) (by kernel_rfl) (by simp) ?_
                    refine AllReadyH.cons (o := { dst := some 20, op := Op.call { callee := Callee.value (Operand.func 34), args := #[Operand.tmp 19], argTypes := #[23] }, type := 9, pos := "ref.go:31", after := #[{ on := 4, ground := Ground.data }, { on := 2, ground := Ground.chain }], guard := none }) rfl (fun K hK => ?_) ?_
                    · go_simp
                      (go_at_call_of 34 (Value.int .u32 p.nu); refine (F2.out _).mono ?_; rintro e wB ⟨rfl, hb⟩; have hR5 := LZ.step (by go_split_ands; assumption) hb; have e0 := hR5.pg.c0; have e1 := hR5.pg.c1; have e2 := hR5.pg.c2; have e5 := hR5.pg.c5; rw [HKI.out] at e2; simp only [Nat.zero_add] at e0 e1 e2 e5; have zs := hb.size; (try simp at zs); have u0 := fun (h : W1.heap.size < _) (h2 : _ = some (Value.int .u8 (ki : Int))) => (hb.cell (p := ⟨W1.heap.size, 0, none⟩) h).trans h2; have v0 := fun (h : W1.heap.size + 1 ≤ _) (h2 : _ = some (Value.int .u8 (ki : Int))) => (hb.cell (p := ⟨W1.heap.size, 0, none⟩) (Nat.lt_of_succ_le h)).trans h2; have u1 := fun (h : W1.heap.size < _) (h2 : _ = some (Value.int .u8 (mk : Int))) => (hb.cell (p := ⟨W1.heap.size, 1, none⟩) h).trans h2; have v1 := fun (h : W1.heap.size + 1 ≤ _) (h2 : _ = some (Value.int .u8 (mk : Int))) => (hb.cell (p := ⟨W1.heap.size, 1, none⟩) (Nat.lt_of_succ_le h)).trans h2; have u2 := fun (h : W1.heap.size < _) (h2 : _ = some (Value.int .u8 (p.da.length : Int))) => (hb.cell (p := ⟨W1.heap.size, 2, none⟩) h).trans h2; have v2 := fun (h : W1.heap.size + 1 ≤ _) (h2 : _ = some (Value.int .u8 (p.da.length : Int))) => (hb.cell (p := ⟨W1.heap.size, 2, none⟩) (Nat.lt_of_succ_le h)).trans h2; have x0 := fun h => hb.cell (p := ⟨wA.heap.size, 0, none⟩) h; have x1 := fun h => hb.cell (p := ⟨wA.heap.size, 1, none⟩) h; have x2 := fun h => hb.cell (p := ⟨wA.heap.size, 2, none⟩) h; (try simp [World.cell?_alloc_new] at x0 x1 x2))
                      refine hK.out _ _ ?_ (fun hH19 => ?_)
                      · try dsimp only
                        (first | (refine ⟨LZ.step HL.out (Below.refl _ _).drew, ?_, ?_, ?_, ?_⟩ <;> go_keep) | exact ⟨by assumption, by assumption, by assumption, by assumption, by assumption⟩ | (go_split_ands; exact ⟨by assumption, by assumption, by assumption, by assumption, by assumption⟩) | (refine ⟨LZ.step (by go_split_ands; assumption) ((Below.refl _ _).alloc (Nat.le_refl _) _), ?_, ?_, ?_, ?_⟩ <;> go_keep))
                      · clear hK K
                        try simp only [Act.put, List.setIfInBounds_toArray, List.set_cons_zero, List.set_cons_succ]
                        try clear hH18
                        refine wpAnyH_take (i := 6) (oi := { dst := some 21, op := Op.binOp BinOp.add 9 (Operand.tmp 17) (Operand.tmp 20) 9, type := 9, pos := "ref.go:31", after := #[{ on := 2, ground := Ground.data }, { on := 5, ground := Ground.data }], guard := none }) (v := ?va294) rfl (by kernel_rfl) (by kernel_rfl) (by kernel_rfl) (fun _ _ _ h => h) (Or.inl ⟨by rfl, ?hy294⟩) (by assumption) ?rest294
                        case hy294 => (intro w hSw; (try dsimp only at hSw); go_simp; try with_reducible rfl)
                        try simp only [Act.put, List.setIfInBounds_toArray, List.set_cons_zero, List.set_cons_succ]
                        refine wpAnyH_take (i := 18) (oi := { dst := some 33, op := Op.binOp BinOp.add 9 (Operand.tmp 21) (Operand.tmp 32) 9, type := 9, pos := "ref.go:31", after := #[{ on := 6, ground := Ground.data }, { on := 17, ground := Ground.data }], guard := none }) (v := ?va297) rfl (by kernel_rfl) (by kernel_rfl) (by kernel_rfl) (fun _ _ _ h => h) (Or.inl ⟨by rfl, ?hy297⟩) (by assumption) ?rest297
                        case hy297 => (intro w hSw; (try dsimp only at hSw); go_simp; try with_reducible rfl)
                        try simp only [Act.put, List.setIfInBounds_toArray, List.set_cons_zero, List.set_cons_succ]
                        refine wpAnyH_ready (rs := [21]) (by kernel_rfl) (by simp) ?_
                        refine AllReadyH.cons (o := { dst := some 36, op := Op.binOp BinOp.add 9 (Operand.tmp 33) (Operand.tmp 35) 9, type := 9, pos := "ref.go:31", after := #[{ on := 18, ground := Ground.data }, { on := 20, ground := Ground.data }], guard := none }) rfl (fun K hK => ?_) ?_
                        · go_simp
                          refine hK.out _ _ ?_ (fun hH20 => ?_)
                          · try dsimp only
                            (first | (refine ⟨LZ.step HL.out (Below.refl _ _).drew, ?_, ?_, ?_, ?_⟩ <;> go_keep) | exact ⟨by assumption, by assumption, by assumption, by assumption, by assumption⟩ | (go_split_ands; exact ⟨by assumption, by assumption, by assumption, by assumption, by assumption⟩) | (refine ⟨LZ.step (by go_split_ands; assumption) ((Below.refl _ _).alloc (Nat.le_refl _) _), ?_, ?_, ?_, ?_⟩ <;> go_keep))
                          · clear hK K
                            try simp only [Act.put, List.setIfInBounds_toArray, List.set_cons_zero, List.set_cons_succ]
                            try clear hH19
                            refine wpAnyH_take (i := 22) (oi := { dst := some 4, op := Op.assign (Operand.tmp 36), type := 9, pos := "ref.go:31", after := #[{ on := 21, ground := Ground.data }, { on := 5, ground := Ground.chain }, { on := 0, ground := Ground.phase }, { on := 1, ground := Ground.phase }, { on := 2, ground := Ground.phase }, { on := 3, ground := Ground.phase }, { on := 4, ground := Ground.phase }, { on := 5, ground := Ground.phase }, { on := 6, ground := Ground.phase }, { on := 7, ground := Ground.phase }, { on := 8, ground := Ground.phase }, { on := 9, ground := Ground.phase }, { on := 10, ground := Ground.phase }, { on := 11, ground := Ground.phase }, { on := 12, ground := Ground.phase }, { on := 13, ground := Ground.phase }, { on := 14, ground := Ground.phase }, { on := 15, ground := Ground.phase }, { on := 16, ground := Ground.phase }, { on := 17, ground := Ground.phase }, { on := 18, ground := Ground.phase }, { on := 19, ground := Ground.phase }, { on := 20, ground := Ground.phase }, { on := 21, ground := Ground.phase }], guard := none }) (v := ?va309) rfl (by kernel_rfl) (by kernel_rfl) (by kernel_rfl) (fun _ _ _ h => h) (Or.inl ⟨by rfl, ?hy309⟩) (by assumption) ?rest309
                            case hy309 => (intro w hSw; (try dsimp only at hSw); go_simp; try with_reducible rfl)
                            try simp only [Act.put, List.setIfInBounds_toArray, List.set_cons_zero, List.set_cons_succ]
                            refine wpAnyH_done (by kernel_rfl) ?_ _
                            refine NoPanic.normal ?_
                            go_wp2_with fail
                            go_meet
                            refine ⟨by simp [← HX.out], ?_⟩
                            go_split_ands
                            assumption
                        exact AllReadyH.nil
                    exact AllReadyH.nil
                exact AllReadyH.nil
            refine AllReadyH.cons (o := { dst := some 32, op := Op.convert 25 9 (Operand.tmp 31), type := 9, pos := "ref.go:31", after := #[{ on := 16, ground := Ground.data }], guard := none }) rfl (fun K hK => ?_) ?_
            · go_simp
              refine hK.out _ _ ?_ (fun hH21 => ?_)
              · try dsimp only
                (first | (refine ⟨LZ.step HL.out (Below.refl _ _).drew, ?_, ?_, ?_, ?_⟩ <;> go_keep) | exact ⟨by assumption, by assumption, by assumption, by assumption, by assumption⟩ | (go_split_ands; exact ⟨by assumption, by assumption, by assumption, by assumption, by assumption⟩) | (refine ⟨LZ.step (by go_split_ands; assumption) ((Below.refl _ _).alloc (Nat.le_refl _) _), ?_, ?_, ?_, ?_⟩ <;> go_keep))
              · clear hK K
                try simp only [Act.put, List.setIfInBounds_toArray, List.set_cons_zero, List.set_cons_succ]
                try clear hH13
                refine wpAnyH_ready (rs := [2]) (by kernel_rfl) (by simp) ?_
                refine AllReadyH.cons (o := { dst := some 17, op := Op.call { callee := Callee.value (Operand.func 34), args := #[Operand.tmp 16], argTypes := #[23] }, type := 9, pos := "ref.go:31", after := #[{ on := 1, ground := Ground.data }], guard := none }) rfl (fun K hK => ?_) ?_
                · go_simp
                  (go_at_call_of 34 (Value.int .u32 p.ep); refine (F1.out _).mono ?_; rintro e wA ⟨rfl, hb⟩; have hR5 := LZ.step (by go_split_ands; assumption) hb; have e0 := hR5.pg.c0; have e1 := hR5.pg.c1; have e2 := hR5.pg.c2; have e5 := hR5.pg.c5; rw [HKI.out] at e2; simp only [Nat.zero_add] at e0 e1 e2 e5; have ys := hb.size; (try simp at ys); have y0 := fun h => hb.cell (p := ⟨W1.heap.size, 0, none⟩) h; have y1 := fun h => hb.cell (p := ⟨W1.heap.size, 1, none⟩) h; have y2 := fun h => hb.cell (p := ⟨W1.heap.size, 2, none⟩) h; (try simp [World.cell?_alloc_new] at y0 y1 y2))
                  refine hK.out _ _ ?_ (fun hH22 => ?_)
                  · try dsimp only
                    (first | (refine ⟨LZ.step HL.out (Below.refl _ _).drew, ?_, ?_, ?_, ?_⟩ <;> go_keep) | exact ⟨by assumption, by assumption, by assumption, by assumption, by assumption⟩ | (go_split_ands; exact ⟨by assumption, by assumption, by assumption, by assumption, by assumption⟩) | (refine ⟨LZ.step (by go_split_ands; assumption) ((Below.refl _ _).alloc (Nat.le_refl _) _), ?_, ?_, ?_, ?_⟩ <;> go_keep))
                  · clear hK K
                    try simp only [Act.put, List.setIfInBounds_toArray, List.set_cons_zero, List.set_cons_succ]
                    try clear hH21
                    refine wpAnyH_ready (rs := [5]) (by kernel_rfl) (by simp) ?_
                    refine AllReadyH.cons (o := { dst := some 20, op := Op.call { callee := Callee.value (Operand.func 34), args := #[Operand.tmp 19], argTypes := #[23] }, type := 9, pos := "ref.go:31", after := #[{ on := 4, ground := Ground.data }, { on := 2, ground := Ground.chain }], guard := none }) rfl (fun K hK => ?_) ?_
                    · go_simp
                      (go_at_call_of 34 (Value.int .u32 p.nu); refine (F2.out _).mono ?_; rintro e wB ⟨rfl, hb⟩; have hR5 := LZ.step (by go_split_ands; assumption) hb; have e0 := hR5.pg.c0; have e1 := hR5.pg.c1; have e2 := hR5.pg.c2; have e5 := hR5.pg.c5; rw [HKI.out] at e2; simp only [Nat.zero_add] at e0 e1 e2 e5; have zs := hb.size; (try simp at zs); have u0 := fun (h : W1.heap.size < _) (h2 : _ = some (Value.int .u8 (ki : Int))) => (hb.cell (p := ⟨W1.heap.size, 0, none⟩) h).trans h2; have v0 := fun (h : W1.heap.size + 1 ≤ _) (h2 : _ = some (Value.int .u8 (ki : Int))) => (hb.cell (p := ⟨W1.heap.size, 0, none⟩) (Nat.lt_of_succ_le h)).trans h2; have u1 := fun (h : W1.heap.size < _) (h2 : _ = some (Value.int .u8 (mk : Int))) => (hb.cell (p := ⟨W1.heap.size, 1, none⟩) h).trans h2; have v1 := fun (h : W1.heap.size + 1 ≤ _) (h2 : _ = some (Value.int .u8 (mk : Int))) => (hb.cell (p := ⟨W1.heap.size, 1, none⟩) (Nat.lt_of_succ_le h)).trans h2; have u2 := fun (h : W1.heap.size < _) (h2 : _ = some (Value.int .u8 (p.da.length : Int))) => (hb.cell (p := ⟨W1.heap.size, 2, none⟩) h).trans h2; have v2 := fun (h : W1.heap.size + 1 ≤ _) (h2 : _ = some (Value.int .u8 (p.da.length : Int))) => (hb.cell (p := ⟨W1.heap.size, 2, none⟩) (Nat.lt_of_succ_le h)).trans h2; have x0 := fun h => hb.cell (p := ⟨wA.heap.size, 0, none⟩) h; have x1 := fun h => hb.cell (p := ⟨wA.heap.size, 1, none⟩) h; have x2 := fun h => hb.cell (p := ⟨wA.heap.size, 2, none⟩) h; (try simp [World.cell?_alloc_new] at x0 x1 x2))
                      refine hK.out _ _ ?_ (fun hH23 => ?_)
                      · try dsimp only
                        (first | (refine ⟨LZ.step HL.out (Below.refl _ _).drew, ?_, ?_, ?_, ?_⟩ <;> go_keep) | exact ⟨by assumption, by assumption, by assumption, by assumption, by assumption⟩ | (go_split_ands; exact ⟨by assumption, by assumption, by assumption, by assumption, by assumption⟩) | (refine ⟨LZ.step (by go_split_ands; assumption) ((Below.refl _ _).alloc (Nat.le_refl _) _), ?_, ?_, ?_, ?_⟩ <;> go_keep))
                      · clear hK K
                        try simp only [Act.put, List.setIfInBounds_toArray, List.set_cons_zero, List.set_cons_succ]
                        try clear hH22
                        refine wpAnyH_take (i := 6) (oi := { dst := some 21, op := Op.binOp BinOp.add 9 (Operand.tmp 17) (Operand.tmp 20) 9, type := 9, pos := "ref.go:31", after := #[{ on := 2, ground := Ground.data }, { on := 5, ground := Ground.data }], guard := none }) (v := ?va350) rfl (by kernel_rfl) (by kernel_rfl) (by kernel_rfl) (fun _ _ _ h => h) (Or.inl ⟨by rfl, ?hy350⟩) (by assumption) ?rest350
                        case hy350 => (intro w hSw; (try dsimp only at hSw); go_simp; try with_reducible rfl)
                        try simp only [Act.put, List.setIfInBounds_toArray, List.set_cons_zero, List.set_cons_succ]
                        refine wpAnyH_take (i := 18) (oi := { dst := some 33, op := Op.binOp BinOp.add 9 (Operand.tmp 21) (Operand.tmp 32) 9, type := 9, pos := "ref.go:31", after := #[{ on := 6, ground := Ground.data }, { on := 17, ground := Ground.data }], guard := none }) (v := ?va353) rfl (by kernel_rfl) (by kernel_rfl) (by kernel_rfl) (fun _ _ _ h => h) (Or.inl ⟨by rfl, ?hy353⟩) (by assumption) ?rest353
                        case hy353 => (intro w hSw; (try dsimp only at hSw); go_simp; try with_reducible rfl)
                        try simp only [Act.put, List.setIfInBounds_toArray, List.set_cons_zero, List.set_cons_succ]
                        refine wpAnyH_ready (rs := [21]) (by kernel_rfl) (by simp) ?_
                        refine AllReadyH.cons (o := { dst := some 36, op := Op.binOp BinOp.add 9 (Operand.tmp 33) (Operand.tmp 35) 9, type := 9, pos := "ref.go:31", after := #[{ on := 18, ground := Ground.data }, { on := 20, ground := Ground.data }], guard := none }) rfl (fun K hK => ?_) ?_
                        · go_simp
                          refine hK.out _ _ ?_ (fun hH24 => ?_)
                          · try dsimp only
                            (first | (refine ⟨LZ.step HL.out (Below.refl _ _).drew, ?_, ?_, ?_, ?_⟩ <;> go_keep) | exact ⟨by assumption, by assumption, by assumption, by assumption, by assumption⟩ | (go_split_ands; exact ⟨by assumption, by assumption, by assumption, by assumption, by assumption⟩) | (refine ⟨LZ.step (by go_split_ands; assumption) ((Below.refl _ _).alloc (Nat.le_refl _) _), ?_, ?_, ?_, ?_⟩ <;> go_keep))
                          · clear hK K
                            try simp only [Act.put, List.setIfInBounds_toArray, List.set_cons_zero, List.set_cons_succ]
                            try clear hH23
                            refine wpAnyH_take (i := 22) (oi := { dst := some 4, op := Op.assign (Operand.tmp 36), type := 9, pos := "ref.go:31", after := #[{ on := 21, ground := Ground.data }, { on := 5, ground := Ground.chain }, { on := 0, ground := Ground.phase }, { on := 1, ground := Ground.phase }, { on := 2, ground := Ground.phase }, { on := 3, ground := Ground.phase }, { on := 4, ground := Ground.phase }, { on := 5, ground := Ground.phase }, { on := 6, ground := Ground.phase }, { on := 7, ground := Ground.phase }, { on := 8, ground := Ground.phase }, { on := 9, ground := Ground.phase }, { on := 10, ground := Ground.phase }, { on := 11, ground := Ground.phase }, { on := 12, ground := Ground.phase }, { on := 13, ground := Ground.phase }, { on := 14, ground := Ground.phase }, { on := 15, ground := Ground.phase }, { on := 16, ground := Ground.phase }, { on := 17, ground := Ground.phase }, { on := 18, ground := Ground.phase }, { on := 19, ground := Ground.phase }, { on := 20, ground := Ground.phase }, { on := 21, ground := Ground.phase }], guard := none }) (v := ?va365) rfl (by kernel_rfl) (by kernel_rfl) (by kernel_rfl) (fun _ _ _ h => h) (Or.inl ⟨by rfl, ?hy365⟩) (by assumption) ?rest365
                            case hy365 => (intro w hSw; (try dsimp only at hSw); go_simp; try with_reducible rfl)
                            try simp only [Act.put, List.setIfInBounds_toArray, List.set_cons_zero, List.set_cons_succ]
                            refine wpAnyH_done (by kernel_rfl) ?_ _
                            refine NoPanic.normal ?_
                            go_wp2_with fail
                            go_meet
                            refine ⟨by simp [← HX.out], ?_⟩
                            go_split_ands
                            assumption
                        exact AllReadyH.nil
                    exact AllReadyH.nil
                exact AllReadyH.nil
            exact AllReadyH.nil
        exact AllReadyH.nil
      case rest =>
        obtain ⟨rfl, hz⟩ := hcut
        have hXl : X.length = 11 + p.da.length := by rw [← HX.out]; simp [four_length]; omega
        have HZ := Lib.hid hz
        clear hz hcv k0 k1 k2 k5
        go_wp2_with fail
        go_loopw [4, 37, 38, 39, 40, 41] (fun a4 _ _ _ _ _ wr => ∃ j : Nat, j ≤ 49 - p.da.length ∧ a4 = .string ⟨(X ++ List.replicate j 0).toArray⟩ ∧ LZ w wr g1 g2 p) (fun a4 _ _ _ _ _ _ => 60 - (match a4 with | .string s => s.size | _ => 0))
        case atStart => exact ⟨0, by omega, by simp, HZ.out⟩
        case round =>
          obtain ⟨j, hj, rfl, hW⟩ := hrel
          have HW := Lib.hid hW
          have hsz : (⟨(X ++ List.replicate j 0).toArray⟩ : ByteArray).size = 11 + p.da.length + j := by rw [size_bytes]; simp [hXl]
          clear hW
          by_cases hlt : j < 49 - p.da.length
          · go_wp2_with fail
            have e : List.replicate j (0 : UInt8) ++ [0] = List.replicate (j + 1) 0 := by rw [List.replicate_succ']
            refine ⟨⟨j + 1, by omega, by rw [e], HW.out⟩, ?_⟩
            show 60 - (⟨(X ++ (List.replicate j 0 ++ [0])).toArray⟩ : ByteArray).size < 60 - (⟨(X ++ List.replicate j 0).toArray⟩ : ByteArray).size
            rw [size_bytes, size_bytes]
            simp [hXl]
            omega
          · have hj49 : j = 49 - p.da.length := by omega
            subst hj49
            obtain ⟨Y, hY⟩ : ∃ Y, X ++ List.replicate (49 - p.da.length) 0 = Y := ⟨_, rfl⟩
            have hYb : Y = bodyB p := by
              rw [← hY, ← HX.out]
              unfold bodyB
              rw [hmk.symm, show p.ki.toNat = ki by rw [HKI.out]; simp]
              simp
            rw [hY] at hsz ⊢
            have S := Lib.hid (fun W => refsum_any ⟨Y.toArray⟩ (by rw [hsz]; unfold maxLen; omega) W)
            have F := Lib.hid (fun W => reffour_any (CrcP.sum Y) (CrcP.sum_lt _) W)
            obtain ⟨B, hB⟩ : ∃ B, four (CrcP.sum Y) ++ Y = B := ⟨_, rfl⟩
            have HBL := Lib.hid (show layB p = B by rw [← hB, hYb]; rfl)
            have hBl : B.length = 64 := by rw [← HBL.out]; exact layB_length p hd2
            have hsB : (⟨B.toArray⟩ : ByteArray).size = 64 := by rw [size_bytes, hBl]
            have HB := Lib.hid hB
            have hY60 : Y.length = 60 := by have := hsz; rw [size_bytes] at this; omega
            clear hY hYb hB hmk HX
            go_wp2_with fail
            refine (S.out _).mono ?_
            rintro e w2 ⟨rfl, rfl⟩
            go_wp2_with fail
            refine (F.out _).mono ?_
            rintro e w2 ⟨rfl, hb⟩
            have HW2 := Lib.hid (HW.out.step hb)
            clear hb HW
            go_wp2_with fail
            rw [HB.out]
            refine wp_gate (fun W => LV w W g2 w2.heap.size zero64) (LV.start HW2.out _ 55 (by rfl)) ?_
            intro W3 hL3
            have HL3 := Lib.hid hL3
            clear hL3 HW2
            generalize w2.heap.size = g5 at *
            go_loopw [6, 47, 48, 49, 50, 51, 52, 53, 54, 55] (fun a6 _ _ _ _ _ _ _ _ _ wr => ∃ k : Nat, k ≤ 64 ∧ a6 = .int .i64 k ∧ LV w wr g2 g5 (mid B zero64 k)) (fun a6 _ _ _ _ _ _ _ _ _ _ => 64 - (intOf a6).toNat)
            case atStart => exact ⟨0, by omega, rfl, by rw [mid_zero]; exact HL3.out⟩
            case round =>
              obtain ⟨k, hk64, rfl, hV⟩ := hrel
              by_cases hlt2 : k < 64
              · have hkB : k < B.length := by omega
                have ck := hV.buf.cell k (by rw [mid_length _ _ _ (by omega) (by rw [zero64_length]; omega), zero64_length]; omega)
                have fk := hV.buf.frozen
                have hgk : (ByteArray.mk B.toArray)[k]'(by rw [hsB]; exact hlt2) = B[k] := bytesArr_get B k hkB _
                have HV := Lib.hid hV
                clear hV
                go_wp2_with fail
                refine ⟨⟨k + 1, by omega, by simp, ?_⟩, ?_⟩
                · rw [← mid_set B zero64 k hkB (by rw [zero64_length]; omega)]
                  exact HV.out.set k B[k]
                · simp only [intOf]; omega
              · have hk4 : k = 64 := by omega
                subst hk4
                have e : mid B zero64 64 = B := by
                  unfold mid
                  rw [List.take_of_length_le (by omega), List.drop_of_length_le (by rw [zero64_length]; omega), List.append_nil]
                rw [e] at hV
                have HV := Lib.hid hV
                have HR := Lib.hid (below_setCells HV.out.ge2 (B.map bv) 0 _ HV.out.below)
                clear hV e
                go_wp2_with (first
                  | refine wpList_load55g _ (by rfl) (by rfl) _ (by rfl) B HV.out.buf ?_
                  | refine wpList_store55 (by rfl) _ _ (by rfl) g2 (by rfl) B (by rfl) _ HV.out.res hBl ?_)
                rw [HBL.out]
                exact bodyPost_ret (results_cell1 (p := 2) (ty := 55) rfl _ _ ⟨g2, 0, none⟩ _ rfl (HV.out.res.stored B hBl).loadVar55) rfl ⟨rfl, HR.out⟩
end Go.Proofs.Ytmaaljfcnnlnpaa
