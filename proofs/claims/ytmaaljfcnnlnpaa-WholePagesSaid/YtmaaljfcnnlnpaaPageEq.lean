/-
  When two arrays of sixty-four bytes are alike.
-/
import Derived.Test.YtmaaljfcnnlnpaaPageMem
import Derived.ChangeKeysEq
import Derived.Test.YtmaaljfcnnlnpaaWs
namespace Go.Proofs.Ytmaaljfcnnlnpaa
open Go.RowKit

theorem plain5 : Try.prog.plainKey 5 = true := by kernel_rfl
theorem cellsOf5 : Try.prog.cellsOf 5 = 1 := by kernel_rfl

theorem run_eqBytes (W : World) (a b : List UInt8) (ha : a.length = 64) (hb : b.length = 64) : ∀ is : List Nat, (∀ i ∈ is, i < 64) →
    (Op.eqItems 9999 5 1 (a.map bv).toArray (b.map bv).toArray is).run Try.prog W = .ok (is.all fun i => a.getD i 0 == b.getD i 0) W
  | [], _ => rfl
  | i :: is, h => by
    have hi := h i (.head _)
    have pa : (part 5 (a.map bv).toArray i).run Try.prog W = .ok (bv (a.getD i 0)) W := run_part_plain W plain5 (by
      simp [List.getElem?_map, List.getElem?_eq_getElem (show i < a.length by omega)])
    have pb : (part 5 (b.map bv).toArray i).run Try.prog W = .ok (bv (b.getD i 0)) W := run_part_plain W plain5 (by
      simp [List.getElem?_map, List.getElem?_eq_getElem (show i < b.length by omega)])
    have pe : ∀ x y : UInt8, (Op.equalIn 9999 5 (bv x) (bv y)).run Try.prog W = .ok (x == y) W := fun x y => by
      have e : ((x.toNat : Int) == (y.toNat : Int)) = (x == y) := by
        by_cases hxy : x = y
        · subst hxy; simp
        · have hne : x.toNat ≠ y.toNat := fun h => hxy (UInt8.toNat_inj.1 h)
          have h1 : (x == y) = false := by simpa using hxy
          rw [h1]; simp; omega
      unfold Op.equalIn bv
      simp only [Sem.run_bind, run_underlying Try.underlying5, Result.andThen_ok]
      rw [if_pos trivial, e]
      rfl
    have ih := run_eqBytes W a b ha hb is (fun j hj => h j (.tail _ hj))
    simp only [Op.eqItems, Sem.run_bind, Nat.mul_one, pa, pb, pe, Result.andThen_ok, List.all_cons]
    cases hx : (a.getD i 0 == b.getD i 0)
    · rw [if_pos (by simp)]
      simp
    · rw [if_neg (by simp), ih]
      simp

theorem all_eq (a b : List UInt8) (ha : a.length = 64) (hb : b.length = 64) : ((List.range 64).all fun i => a.getD i 0 == b.getD i 0) = (a == b) := by
  by_cases h : a = b
  · subst h
    simp
  · have h1 : (a == b) = false := by simpa using h
    rw [h1, Bool.eq_false_iff]
    intro h2
    refine h (List.ext_getElem (by omega) fun i h3 h4 => ?_)
    have := List.all_eq_true.1 h2 i (by simp; omega)
    rw [List.getD_eq_getElem?_getD, List.getD_eq_getElem?_getD, List.getElem?_eq_getElem h3, List.getElem?_eq_getElem h4] at this
    simpa using this

theorem run_eqPg {t : TypeId} (ht : Try.prog.underlying t = some (.array 64 5)) (W : World) (a b : List UInt8) (ha : a.length = 64) (hb : b.length = 64) :
    (Op.equal t (pgB a) (pgB b)).run Try.prog W = .ok (a == b) W := by
  obtain ⟨i0, hi, _⟩ := info_parts (show (Try.prog.info? 5).map (fun i => (i.zero, i.size, i.bytes)) = some (some (.int .u8 0), 1, 1) by kernel_rfl)
  have := run_equalIn_array (P := Try.prog) (w := W) 9999 (a.map bv).toArray (b.map bv).toArray ht hi
  rw [cellsOf5, run_eqBytes W a b ha hb _ (fun i hi => by simpa using hi), all_eq a b ha hb] at this
  exact this

theorem run_neq56 (W : World) (a b : List UInt8) (ha : a.length = 64) (hb : b.length = 64) : (binOp .neq 56 (pgB a) (pgB b)).run Try.prog W = .ok (.bool (a != b)) W := by
  have := run_eqPg Try.underlying56 W a b ha hb
  unfold pgB at *
  simp only [binOp, Sem.run_bind, this, Result.andThen_ok, Sem.run_pure]
  rfl
theorem run_eql56 (W : World) (a b : List UInt8) (ha : a.length = 64) (hb : b.length = 64) : (binOp .eql 56 (pgB a) (pgB b)).run Try.prog W = .ok (.bool (a == b)) W := by
  have := run_eqPg Try.underlying56 W a b ha hb
  unfold pgB at *
  simp only [binOp, Sem.run_bind, this, Result.andThen_ok, Sem.run_pure]

/-- In a region walked by a class: a load that is known in every world of the class. -/
theorem quiet_load {J : World → Prop} {o : Oper} {a : Act} {K : Act → Prop} (t : TypeId) (x : Operand) (ho : o.op = .load t x) (p : Value) (hx : a.eval x = p) (v : Value)
    (h : ∀ y : WS J, (Instr.loadAt t p).run Try.prog y.w = .ok v y.w) (hK : K (a.put o.dst v)) : o.quiet Try.prog a (fun w' => ∃ y : WS J, w' = y.w) K := by
  refine ⟨v, ?_, hK⟩
  rintro w ⟨y, rfl⟩
  unfold Oper.quietAt execOp
  simp only [ho, hx, Sem.run_bind, h y, Result.andThen_ok]
  exact ⟨rfl, rfl⟩
end Go.Proofs.Ytmaaljfcnnlnpaa
