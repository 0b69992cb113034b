/-
  A page's bytes. Nothing of the program is named here.
-/
import Derived.Test.YtmaaljfcnnlnpaaCrcLaw4
import Derived.Test.YtmaaljfcnnlnpaaFragPure
namespace Go.Proofs.Ytmaaljfcnnlnpaa

/-- The marks' byte. -/
def marks (p : Pg) : UInt8 := (if p.fi then 1 else 0) ||| (if p.la then 2 else 0)

/-- What stands behind the sum. -/
def bodyB (p : Pg) : List UInt8 := four p.ep ++ four p.nu ++ [UInt8.ofNat p.ki.toNat, marks p, UInt8.ofNat p.da.length] ++ p.da ++ List.replicate (49 - p.da.length) 0

/-- A page's bytes. -/
def layB (p : Pg) : List UInt8 := four (CrcP.sum (bodyB p)) ++ bodyB p

theorem bodyB_length (p : Pg) (h : p.da.length ≤ 49) : (bodyB p).length = 60 := by
  simp [bodyB, four_length]; omega
theorem layB_length (p : Pg) (h : p.da.length ≤ 49) : (layB p).length = 64 := by
  simp [layB, four_length, bodyB_length p h]
theorem layB_drop (p : Pg) : (layB p).drop 4 = bodyB p := by
  unfold layB
  rw [List.drop_left' (four_length _)]

/-- What the bytes say, whether or not they are right. -/
def parse (bs : List UInt8) : Pg :=
  ⟨numP (bs.drop 4), numP (bs.drop 8), (bs.getD 12 0).toNat, decide (0 < ((bs.getD 13 0) &&& 1).toNat), decide (0 < ((bs.getD 13 0) &&& 2).toNat), (bs.drop 15).take (min (bs.getD 14 0).toNat 49)⟩

/-- The bytes are read: the page, the error. -/
def readB (bs : List UInt8) : Pg × Nat :=
  if numP bs ≠ CrcP.sum (bs.drop 4) then (⟨0, 0, 0, false, false, []⟩, 3)
  else if (parse bs).right = true ∧ layB (parse bs) = bs then (parse bs, 0) else (⟨0, 0, 0, false, false, []⟩, 4)
end Go.Proofs.Ytmaaljfcnnlnpaa
