/-
  No cell of these rows narrows 'for every input' (looked for: loops, veiled, ifaces, maps, wideKeys, modest, calm, conditions, laid).
  DERIVED. THE GIVEN ROWS OF THIS SEAT. 25 by the template 'for every input the law returns true; each argument reads behind the call as it read before'; 0 by the template 'total and deterministic' (their statements: YtmaaljfcnnlnpaaTotals.lean).
  GIVEN WITH THE SEED: the statements are not yours to turn. If you find one false, say at which input.
  Laid BY PROGRAM, IN A SANDBOX (cutbox-rows.mjs): the forced cells as the released guide's own fill.sh prints them over the translation c3d5f39ce5dd6f62… (all of the seat's roots in one cut). By AI agents, Wed Nov 11 2026. No macro, syntax, notation, axiom, sorry.
-/
import Derived.Test.YtmaaljfcnnlnpaaChecked
import GoSem.Claim
import GoSem.ClaimJoined
import GoSem.ClaimMapViews
import Derived.JoinedTies
import Derived.KernelRfl
namespace Go.Proofs.Ytmaaljfcnnlnpaa
/- THE CELL 'sum', in the pinned program and in every row, IS THE sha256 OF THE DUMP (.gsa) THAT YtmaaljfcnnlnpaaProg.lean LOADS. Nothing in Lean hashes anything: it is a label: what it is worth is what the hold of that sum in a sandbox is worth. -/
noncomputable def Try.pinned : Pinned := { name := "ytmaaljfcnnlnpaa", sum := "c3d5f39ce5dd6f62dc93bc4f49b63866172e76996f78eab67d47173f291500d0", checked := Try.checked }
namespace Rows
def none {H : Type} : Left H := { results := [], args := [] }

/-- 'spoollaw02.CrcBursts': WHATEVER THE INPUT: true; the input reads as it did. -/
def crcBurstsSpec : ChangeSpec := { name := "crcBursts", fn := fun _ => fun
  | [d1, d2, d3] => { results := [.lit (.bool true)], args := [d1, d2, d3] }
  | _ => none }
def crcBurstsRow : OpenClaim := { program := "ytmaaljfcnnlnpaa", sum := "c3d5f39ce5dd6f62dc93bc4f49b63866172e76996f78eab67d47173f291500d0", func := "spool/spoollaw02.CrcBursts", spec := "crcBursts", unfollowed := true, recurses := true, apart := false }
def CrcBurstsSaid : Prop := crcBurstsRow.holds Try.pinned (OpenSpec.ofChange crcBurstsSpec)

/-- ITS FALSE NEIGHBOUR: 'it returns false'. Refute it at one input. -/
def crcBurstsWrong : ChangeSpec := { name := "crcBursts", fn := fun _ => fun
  | [d1, d2, d3] => { results := [.lit (.bool false)], args := [d1, d2, d3] }
  | _ => none }
def CrcBurstsWrongFalsely : Prop := crcBurstsRow.holds Try.pinned (OpenSpec.ofChange crcBurstsWrong)

/-- 'spoollaw02.CrcMore': WHATEVER THE INPUT: true; the input reads as it did. -/
def crcMoreSpec : ChangeSpec := { name := "crcMore", fn := fun _ => fun
  | [d1, d2, d3] => { results := [.lit (.bool true)], args := [d1, d2, d3] }
  | _ => none }
def crcMoreRow : OpenClaim := { program := "ytmaaljfcnnlnpaa", sum := "c3d5f39ce5dd6f62dc93bc4f49b63866172e76996f78eab67d47173f291500d0", func := "spool/spoollaw02.CrcMore", spec := "crcMore", unfollowed := true, recurses := true, apart := false }
def CrcMoreSaid : Prop := crcMoreRow.holds Try.pinned (OpenSpec.ofChange crcMoreSpec)

/-- ITS FALSE NEIGHBOUR: 'it returns false'. Refute it at one input. -/
def crcMoreWrong : ChangeSpec := { name := "crcMore", fn := fun _ => fun
  | [d1, d2, d3] => { results := [.lit (.bool false)], args := [d1, d2, d3] }
  | _ => none }
def CrcMoreWrongFalsely : Prop := crcMoreRow.holds Try.pinned (OpenSpec.ofChange crcMoreWrong)

/-- 'spoollaw02.CrcLine': WHATEVER THE INPUT: true; the input reads as it did. -/
def crcLineSpec : ChangeSpec := { name := "crcLine", fn := fun _ => fun
  | [d1, d2, d3] => { results := [.lit (.bool true)], args := [d1, d2, d3] }
  | _ => none }
def crcLineRow : OpenClaim := { program := "ytmaaljfcnnlnpaa", sum := "c3d5f39ce5dd6f62dc93bc4f49b63866172e76996f78eab67d47173f291500d0", func := "spool/spoollaw02.CrcLine", spec := "crcLine", unfollowed := true, recurses := true, apart := false }
def CrcLineSaid : Prop := crcLineRow.holds Try.pinned (OpenSpec.ofChange crcLineSpec)

/-- ITS FALSE NEIGHBOUR: 'it returns false'. Refute it at one input. -/
def crcLineWrong : ChangeSpec := { name := "crcLine", fn := fun _ => fun
  | [d1, d2, d3] => { results := [.lit (.bool false)], args := [d1, d2, d3] }
  | _ => none }
def CrcLineWrongFalsely : Prop := crcLineRow.holds Try.pinned (OpenSpec.ofChange crcLineWrong)

/-- 'spoollaw02.CrcPlays': WHATEVER THE INPUT: true; the input reads as it did. -/
def crcPlaysSpec : ChangeSpec := { name := "crcPlays", fn := fun _ => fun
  | [d1, d2] => { results := [.lit (.bool true)], args := [d1, d2] }
  | _ => none }
def crcPlaysRow : OpenClaim := { program := "ytmaaljfcnnlnpaa", sum := "c3d5f39ce5dd6f62dc93bc4f49b63866172e76996f78eab67d47173f291500d0", func := "spool/spoollaw02.CrcPlays", spec := "crcPlays", unfollowed := true, recurses := true, apart := false }
def CrcPlaysSaid : Prop := crcPlaysRow.holds Try.pinned (OpenSpec.ofChange crcPlaysSpec)

/-- ITS FALSE NEIGHBOUR: 'it returns false'. Refute it at one input. -/
def crcPlaysWrong : ChangeSpec := { name := "crcPlays", fn := fun _ => fun
  | [d1, d2] => { results := [.lit (.bool false)], args := [d1, d2] }
  | _ => none }
def CrcPlaysWrongFalsely : Prop := crcPlaysRow.holds Try.pinned (OpenSpec.ofChange crcPlaysWrong)

/-- 'spoollaw02.CrcNumbers': WHATEVER THE INPUT: true; the input reads as it did. -/
def crcNumbersSpec : ChangeSpec := { name := "crcNumbers", fn := fun _ => fun
  | [d1, d2, d3] => { results := [.lit (.bool true)], args := [d1, d2, d3] }
  | _ => none }
def crcNumbersRow : OpenClaim := { program := "ytmaaljfcnnlnpaa", sum := "c3d5f39ce5dd6f62dc93bc4f49b63866172e76996f78eab67d47173f291500d0", func := "spool/spoollaw02.CrcNumbers", spec := "crcNumbers", unfollowed := true, recurses := true, apart := false }
def CrcNumbersSaid : Prop := crcNumbersRow.holds Try.pinned (OpenSpec.ofChange crcNumbersSpec)

/-- ITS FALSE NEIGHBOUR: 'it returns false'. Refute it at one input. -/
def crcNumbersWrong : ChangeSpec := { name := "crcNumbers", fn := fun _ => fun
  | [d1, d2, d3] => { results := [.lit (.bool false)], args := [d1, d2, d3] }
  | _ => none }
def CrcNumbersWrongFalsely : Prop := crcNumbersRow.holds Try.pinned (OpenSpec.ofChange crcNumbersWrong)

/-- 'spoollaw18.FragPlays': WHATEVER THE INPUT: true; the input reads as it did. -/
def fragPlaysSpec : ChangeSpec := { name := "fragPlays", fn := fun _ => fun
  | [d1, d2] => { results := [.lit (.bool true)], args := [d1, d2] }
  | _ => none }
def fragPlaysRow : OpenClaim := { program := "ytmaaljfcnnlnpaa", sum := "c3d5f39ce5dd6f62dc93bc4f49b63866172e76996f78eab67d47173f291500d0", func := "spool/spoollaw18.FragPlays", spec := "fragPlays", unfollowed := true, recurses := true, apart := false }
def FragPlaysSaid : Prop := fragPlaysRow.holds Try.pinned (OpenSpec.ofChange fragPlaysSpec)

/-- ITS FALSE NEIGHBOUR: 'it returns false'. Refute it at one input. -/
def fragPlaysWrong : ChangeSpec := { name := "fragPlays", fn := fun _ => fun
  | [d1, d2] => { results := [.lit (.bool false)], args := [d1, d2] }
  | _ => none }
def FragPlaysWrongFalsely : Prop := fragPlaysRow.holds Try.pinned (OpenSpec.ofChange fragPlaysWrong)

/-- 'spooltop.WholePages': WHATEVER THE INPUT: true; the input reads as it did. -/
def wholePagesSpec : ChangeSpec := { name := "wholePages", fn := fun _ => fun
  | [d1, d2, d3] => { results := [.lit (.bool true)], args := [d1, d2, d3] }
  | _ => none }
def wholePagesRow : OpenClaim := { program := "ytmaaljfcnnlnpaa", sum := "c3d5f39ce5dd6f62dc93bc4f49b63866172e76996f78eab67d47173f291500d0", func := "spool/spooltop.WholePages", spec := "wholePages", unfollowed := true, recurses := true, apart := false }
def WholePagesSaid : Prop := wholePagesRow.holds Try.pinned (OpenSpec.ofChange wholePagesSpec)

/-- ITS FALSE NEIGHBOUR: 'it returns false'. Refute it at one input. -/
def wholePagesWrong : ChangeSpec := { name := "wholePages", fn := fun _ => fun
  | [d1, d2, d3] => { results := [.lit (.bool false)], args := [d1, d2, d3] }
  | _ => none }
def WholePagesWrongFalsely : Prop := wholePagesRow.holds Try.pinned (OpenSpec.ofChange wholePagesWrong)

/-- 'spoollaw18.FragBack': WHATEVER THE INPUT: true; the input reads as it did. -/
def fragBackSpec : ChangeSpec := { name := "fragBack", fn := fun _ => fun
  | [d1, d2, d3] => { results := [.lit (.bool true)], args := [d1, d2, d3] }
  | _ => none }
def fragBackRow : OpenClaim := { program := "ytmaaljfcnnlnpaa", sum := "c3d5f39ce5dd6f62dc93bc4f49b63866172e76996f78eab67d47173f291500d0", func := "spool/spoollaw18.FragBack", spec := "fragBack", unfollowed := true, recurses := true, apart := false }
def FragBackSaid : Prop := fragBackRow.holds Try.pinned (OpenSpec.ofChange fragBackSpec)

/-- ITS FALSE NEIGHBOUR: 'it returns false'. Refute it at one input. -/
def fragBackWrong : ChangeSpec := { name := "fragBack", fn := fun _ => fun
  | [d1, d2, d3] => { results := [.lit (.bool false)], args := [d1, d2, d3] }
  | _ => none }
def FragBackWrongFalsely : Prop := fragBackRow.holds Try.pinned (OpenSpec.ofChange fragBackWrong)

/-- 'spoollaw18.FragEpochs': WHATEVER THE INPUT: true; the input reads as it did. -/
def fragEpochsSpec : ChangeSpec := { name := "fragEpochs", fn := fun _ => fun
  | [d1, d2, d3, d4, d5] => { results := [.lit (.bool true)], args := [d1, d2, d3, d4, d5] }
  | _ => none }
def fragEpochsRow : OpenClaim := { program := "ytmaaljfcnnlnpaa", sum := "c3d5f39ce5dd6f62dc93bc4f49b63866172e76996f78eab67d47173f291500d0", func := "spool/spoollaw18.FragEpochs", spec := "fragEpochs", unfollowed := true, recurses := true, apart := false }
def FragEpochsSaid : Prop := fragEpochsRow.holds Try.pinned (OpenSpec.ofChange fragEpochsSpec)

/-- ITS FALSE NEIGHBOUR: 'it returns false'. Refute it at one input. -/
def fragEpochsWrong : ChangeSpec := { name := "fragEpochs", fn := fun _ => fun
  | [d1, d2, d3, d4, d5] => { results := [.lit (.bool false)], args := [d1, d2, d3, d4, d5] }
  | _ => none }
def FragEpochsWrongFalsely : Prop := fragEpochsRow.holds Try.pinned (OpenSpec.ofChange fragEpochsWrong)

/-- 'spoollaw18.FragRow': WHATEVER THE INPUT: true; the input reads as it did. -/
def fragRowSpec : ChangeSpec := { name := "fragRow", fn := fun _ => fun
  | [d1, d2] => { results := [.lit (.bool true)], args := [d1, d2] }
  | _ => none }
def fragRowRow : OpenClaim := { program := "ytmaaljfcnnlnpaa", sum := "c3d5f39ce5dd6f62dc93bc4f49b63866172e76996f78eab67d47173f291500d0", func := "spool/spoollaw18.FragRow", spec := "fragRow", unfollowed := true, recurses := true, apart := false }
def FragRowSaid : Prop := fragRowRow.holds Try.pinned (OpenSpec.ofChange fragRowSpec)

/-- ITS FALSE NEIGHBOUR: 'it returns false'. Refute it at one input. -/
def fragRowWrong : ChangeSpec := { name := "fragRow", fn := fun _ => fun
  | [d1, d2] => { results := [.lit (.bool false)], args := [d1, d2] }
  | _ => none }
def FragRowWrongFalsely : Prop := fragRowRow.holds Try.pinned (OpenSpec.ofChange fragRowWrong)

/-- 'spoollaw18.FragLong': WHATEVER THE INPUT: true; the input reads as it did. -/
def fragLongSpec : ChangeSpec := { name := "fragLong", fn := fun _ => fun
  | [d1, d2] => { results := [.lit (.bool true)], args := [d1, d2] }
  | _ => none }
def fragLongRow : OpenClaim := { program := "ytmaaljfcnnlnpaa", sum := "c3d5f39ce5dd6f62dc93bc4f49b63866172e76996f78eab67d47173f291500d0", func := "spool/spoollaw18.FragLong", spec := "fragLong", unfollowed := true, recurses := true, apart := false }
def FragLongSaid : Prop := fragLongRow.holds Try.pinned (OpenSpec.ofChange fragLongSpec)

/-- ITS FALSE NEIGHBOUR: 'it returns false'. Refute it at one input. -/
def fragLongWrong : ChangeSpec := { name := "fragLong", fn := fun _ => fun
  | [d1, d2] => { results := [.lit (.bool false)], args := [d1, d2] }
  | _ => none }
def FragLongWrongFalsely : Prop := fragLongRow.holds Try.pinned (OpenSpec.ofChange fragLongWrong)

/-- 'spoollaw16.DiskTwice': WHATEVER THE INPUT: true; the input reads as it did. -/
def diskTwiceSpec : ChangeSpec := { name := "diskTwice", fn := fun _ => fun
  | [d1, d2, d3] => { results := [.lit (.bool true)], args := [d1, d2, d3] }
  | _ => none }
def diskTwiceRow : OpenClaim := { program := "ytmaaljfcnnlnpaa", sum := "c3d5f39ce5dd6f62dc93bc4f49b63866172e76996f78eab67d47173f291500d0", func := "spool/spoollaw16.DiskTwice", spec := "diskTwice", unfollowed := true, recurses := true, apart := false }
def DiskTwiceSaid : Prop := diskTwiceRow.holds Try.pinned (OpenSpec.ofChange diskTwiceSpec)

/-- ITS FALSE NEIGHBOUR: 'it returns false'. Refute it at one input. -/
def diskTwiceWrong : ChangeSpec := { name := "diskTwice", fn := fun _ => fun
  | [d1, d2, d3] => { results := [.lit (.bool false)], args := [d1, d2, d3] }
  | _ => none }
def DiskTwiceWrongFalsely : Prop := diskTwiceRow.holds Try.pinned (OpenSpec.ofChange diskTwiceWrong)

/-- 'spoollaw16.DiskLast': WHATEVER THE INPUT: true; the input reads as it did. -/
def diskLastSpec : ChangeSpec := { name := "diskLast", fn := fun _ => fun
  | [d] => { results := [.lit (.bool true)], args := [d] }
  | _ => none }
def diskLastRow : OpenClaim := { program := "ytmaaljfcnnlnpaa", sum := "c3d5f39ce5dd6f62dc93bc4f49b63866172e76996f78eab67d47173f291500d0", func := "spool/spoollaw16.DiskLast", spec := "diskLast", unfollowed := true, recurses := true, apart := false }
def DiskLastSaid : Prop := diskLastRow.holds Try.pinned (OpenSpec.ofChange diskLastSpec)

/-- ITS FALSE NEIGHBOUR: 'it returns false'. Refute it at one input. -/
def diskLastWrong : ChangeSpec := { name := "diskLast", fn := fun _ => fun
  | [d] => { results := [.lit (.bool false)], args := [d] }
  | _ => none }
def DiskLastWrongFalsely : Prop := diskLastRow.holds Try.pinned (OpenSpec.ofChange diskLastWrong)

/-- 'spoollaw17.PageBack': WHATEVER THE INPUT: true; the input reads as it did. -/
def pageBackSpec : ChangeSpec := { name := "pageBack", fn := fun _ => fun
  | [d1, d2, d3] => { results := [.lit (.bool true)], args := [d1, d2, d3] }
  | _ => none }
def pageBackRow : OpenClaim := { program := "ytmaaljfcnnlnpaa", sum := "c3d5f39ce5dd6f62dc93bc4f49b63866172e76996f78eab67d47173f291500d0", func := "spool/spoollaw17.PageBack", spec := "pageBack", unfollowed := true, recurses := true, apart := false }
def PageBackSaid : Prop := pageBackRow.holds Try.pinned (OpenSpec.ofChange pageBackSpec)

/-- ITS FALSE NEIGHBOUR: 'it returns false'. Refute it at one input. -/
def pageBackWrong : ChangeSpec := { name := "pageBack", fn := fun _ => fun
  | [d1, d2, d3] => { results := [.lit (.bool false)], args := [d1, d2, d3] }
  | _ => none }
def PageBackWrongFalsely : Prop := pageBackRow.holds Try.pinned (OpenSpec.ofChange pageBackWrong)

/-- 'spoollaw17.PageOnly': WHATEVER THE INPUT: true; the input reads as it did. -/
def pageOnlySpec : ChangeSpec := { name := "pageOnly", fn := fun _ => fun
  | [d] => { results := [.lit (.bool true)], args := [d] }
  | _ => none }
def pageOnlyRow : OpenClaim := { program := "ytmaaljfcnnlnpaa", sum := "c3d5f39ce5dd6f62dc93bc4f49b63866172e76996f78eab67d47173f291500d0", func := "spool/spoollaw17.PageOnly", spec := "pageOnly", unfollowed := true, recurses := true, apart := false }
def PageOnlySaid : Prop := pageOnlyRow.holds Try.pinned (OpenSpec.ofChange pageOnlySpec)

/-- ITS FALSE NEIGHBOUR: 'it returns false'. Refute it at one input. -/
def pageOnlyWrong : ChangeSpec := { name := "pageOnly", fn := fun _ => fun
  | [d] => { results := [.lit (.bool false)], args := [d] }
  | _ => none }
def PageOnlyWrongFalsely : Prop := pageOnlyRow.holds Try.pinned (OpenSpec.ofChange pageOnlyWrong)

/-- 'spoollaw17.PagePlays': WHATEVER THE INPUT: true; the input reads as it did. -/
def pagePlaysSpec : ChangeSpec := { name := "pagePlays", fn := fun _ => fun
  | [d1, d2] => { results := [.lit (.bool true)], args := [d1, d2] }
  | _ => none }
def pagePlaysRow : OpenClaim := { program := "ytmaaljfcnnlnpaa", sum := "c3d5f39ce5dd6f62dc93bc4f49b63866172e76996f78eab67d47173f291500d0", func := "spool/spoollaw17.PagePlays", spec := "pagePlays", unfollowed := true, recurses := true, apart := false }
def PagePlaysSaid : Prop := pagePlaysRow.holds Try.pinned (OpenSpec.ofChange pagePlaysSpec)

/-- ITS FALSE NEIGHBOUR: 'it returns false'. Refute it at one input. -/
def pagePlaysWrong : ChangeSpec := { name := "pagePlays", fn := fun _ => fun
  | [d1, d2] => { results := [.lit (.bool false)], args := [d1, d2] }
  | _ => none }
def PagePlaysWrongFalsely : Prop := pagePlaysRow.holds Try.pinned (OpenSpec.ofChange pagePlaysWrong)

/-- 'spoollaw17.PageUnlike': WHATEVER THE INPUT: true; the input reads as it did. -/
def pageUnlikeSpec : ChangeSpec := { name := "pageUnlike", fn := fun _ => fun
  | [d1, d2] => { results := [.lit (.bool true)], args := [d1, d2] }
  | _ => none }
def pageUnlikeRow : OpenClaim := { program := "ytmaaljfcnnlnpaa", sum := "c3d5f39ce5dd6f62dc93bc4f49b63866172e76996f78eab67d47173f291500d0", func := "spool/spoollaw17.PageUnlike", spec := "pageUnlike", unfollowed := true, recurses := true, apart := false }
def PageUnlikeSaid : Prop := pageUnlikeRow.holds Try.pinned (OpenSpec.ofChange pageUnlikeSpec)

/-- ITS FALSE NEIGHBOUR: 'it returns false'. Refute it at one input. -/
def pageUnlikeWrong : ChangeSpec := { name := "pageUnlike", fn := fun _ => fun
  | [d1, d2] => { results := [.lit (.bool false)], args := [d1, d2] }
  | _ => none }
def PageUnlikeWrongFalsely : Prop := pageUnlikeRow.holds Try.pinned (OpenSpec.ofChange pageUnlikeWrong)

/-- 'spoollaw17.PageHeads': WHATEVER THE INPUT: true; the input reads as it did. -/
def pageHeadsSpec : ChangeSpec := { name := "pageHeads", fn := fun _ => fun
  | [d1, d2, d3] => { results := [.lit (.bool true)], args := [d1, d2, d3] }
  | _ => none }
def pageHeadsRow : OpenClaim := { program := "ytmaaljfcnnlnpaa", sum := "c3d5f39ce5dd6f62dc93bc4f49b63866172e76996f78eab67d47173f291500d0", func := "spool/spoollaw17.PageHeads", spec := "pageHeads", unfollowed := true, recurses := true, apart := false }
def PageHeadsSaid : Prop := pageHeadsRow.holds Try.pinned (OpenSpec.ofChange pageHeadsSpec)

/-- ITS FALSE NEIGHBOUR: 'it returns false'. Refute it at one input. -/
def pageHeadsWrong : ChangeSpec := { name := "pageHeads", fn := fun _ => fun
  | [d1, d2, d3] => { results := [.lit (.bool false)], args := [d1, d2, d3] }
  | _ => none }
def PageHeadsWrongFalsely : Prop := pageHeadsRow.holds Try.pinned (OpenSpec.ofChange pageHeadsWrong)

/-- 'spoollaw16.DiskSure': WHATEVER THE INPUT: true; the input reads as it did. -/
def diskSureSpec : ChangeSpec := { name := "diskSure", fn := fun _ => fun
  | [d1, d2, d3] => { results := [.lit (.bool true)], args := [d1, d2, d3] }
  | _ => none }
def diskSureRow : OpenClaim := { program := "ytmaaljfcnnlnpaa", sum := "c3d5f39ce5dd6f62dc93bc4f49b63866172e76996f78eab67d47173f291500d0", func := "spool/spoollaw16.DiskSure", spec := "diskSure", unfollowed := true, recurses := true, apart := false }
def DiskSureSaid : Prop := diskSureRow.holds Try.pinned (OpenSpec.ofChange diskSureSpec)

/-- ITS FALSE NEIGHBOUR: 'it returns false'. Refute it at one input. -/
def diskSureWrong : ChangeSpec := { name := "diskSure", fn := fun _ => fun
  | [d1, d2, d3] => { results := [.lit (.bool false)], args := [d1, d2, d3] }
  | _ => none }
def DiskSureWrongFalsely : Prop := diskSureRow.holds Try.pinned (OpenSpec.ofChange diskSureWrong)

/-- 'spoollaw16.DiskPlays': WHATEVER THE INPUT: true; the input reads as it did. -/
def diskPlaysSpec : ChangeSpec := { name := "diskPlays", fn := fun _ => fun
  | [d1, d2] => { results := [.lit (.bool true)], args := [d1, d2] }
  | _ => none }
def diskPlaysRow : OpenClaim := { program := "ytmaaljfcnnlnpaa", sum := "c3d5f39ce5dd6f62dc93bc4f49b63866172e76996f78eab67d47173f291500d0", func := "spool/spoollaw16.DiskPlays", spec := "diskPlays", unfollowed := true, recurses := true, apart := false }
def DiskPlaysSaid : Prop := diskPlaysRow.holds Try.pinned (OpenSpec.ofChange diskPlaysSpec)

/-- ITS FALSE NEIGHBOUR: 'it returns false'. Refute it at one input. -/
def diskPlaysWrong : ChangeSpec := { name := "diskPlays", fn := fun _ => fun
  | [d1, d2] => { results := [.lit (.bool false)], args := [d1, d2] }
  | _ => none }
def DiskPlaysWrongFalsely : Prop := diskPlaysRow.holds Try.pinned (OpenSpec.ofChange diskPlaysWrong)

/-- 'spoollaw16.DiskFused': WHATEVER THE INPUT: true; the input reads as it did. -/
def diskFusedSpec : ChangeSpec := { name := "diskFused", fn := fun _ => fun
  | [d1, d2] => { results := [.lit (.bool true)], args := [d1, d2] }
  | _ => none }
def diskFusedRow : OpenClaim := { program := "ytmaaljfcnnlnpaa", sum := "c3d5f39ce5dd6f62dc93bc4f49b63866172e76996f78eab67d47173f291500d0", func := "spool/spoollaw16.DiskFused", spec := "diskFused", unfollowed := true, recurses := true, apart := false }
def DiskFusedSaid : Prop := diskFusedRow.holds Try.pinned (OpenSpec.ofChange diskFusedSpec)

/-- ITS FALSE NEIGHBOUR: 'it returns false'. Refute it at one input. -/
def diskFusedWrong : ChangeSpec := { name := "diskFused", fn := fun _ => fun
  | [d1, d2] => { results := [.lit (.bool false)], args := [d1, d2] }
  | _ => none }
def DiskFusedWrongFalsely : Prop := diskFusedRow.holds Try.pinned (OpenSpec.ofChange diskFusedWrong)

/-- 'spoollaw19.SegNeeds': WHATEVER THE INPUT: true; the input reads as it did. -/
def segNeedsSpec : ChangeSpec := { name := "segNeeds", fn := fun _ => fun
  | [d1, d2, d3] => { results := [.lit (.bool true)], args := [d1, d2, d3] }
  | _ => none }
def segNeedsRow : OpenClaim := { program := "ytmaaljfcnnlnpaa", sum := "c3d5f39ce5dd6f62dc93bc4f49b63866172e76996f78eab67d47173f291500d0", func := "spool/spoollaw19.SegNeeds", spec := "segNeeds", unfollowed := true, recurses := true, apart := false }
def SegNeedsSaid : Prop := segNeedsRow.holds Try.pinned (OpenSpec.ofChange segNeedsSpec)

/-- ITS FALSE NEIGHBOUR: 'it returns false'. Refute it at one input. -/
def segNeedsWrong : ChangeSpec := { name := "segNeeds", fn := fun _ => fun
  | [d1, d2, d3] => { results := [.lit (.bool false)], args := [d1, d2, d3] }
  | _ => none }
def SegNeedsWrongFalsely : Prop := segNeedsRow.holds Try.pinned (OpenSpec.ofChange segNeedsWrong)

/-- 'spoollaw19.SegFull': WHATEVER THE INPUT: true; the input reads as it did. -/
def segFullSpec : ChangeSpec := { name := "segFull", fn := fun _ => fun
  | [d] => { results := [.lit (.bool true)], args := [d] }
  | _ => none }
def segFullRow : OpenClaim := { program := "ytmaaljfcnnlnpaa", sum := "c3d5f39ce5dd6f62dc93bc4f49b63866172e76996f78eab67d47173f291500d0", func := "spool/spoollaw19.SegFull", spec := "segFull", unfollowed := true, recurses := true, apart := false }
def SegFullSaid : Prop := segFullRow.holds Try.pinned (OpenSpec.ofChange segFullSpec)

/-- ITS FALSE NEIGHBOUR: 'it returns false'. Refute it at one input. -/
def segFullWrong : ChangeSpec := { name := "segFull", fn := fun _ => fun
  | [d] => { results := [.lit (.bool false)], args := [d] }
  | _ => none }
def SegFullWrongFalsely : Prop := segFullRow.holds Try.pinned (OpenSpec.ofChange segFullWrong)

/-- 'spoollaw19.SegFrozen': WHATEVER THE INPUT: true; the input reads as it did. -/
def segFrozenSpec : ChangeSpec := { name := "segFrozen", fn := fun _ => fun
  | [d1, d2] => { results := [.lit (.bool true)], args := [d1, d2] }
  | _ => none }
def segFrozenRow : OpenClaim := { program := "ytmaaljfcnnlnpaa", sum := "c3d5f39ce5dd6f62dc93bc4f49b63866172e76996f78eab67d47173f291500d0", func := "spool/spoollaw19.SegFrozen", spec := "segFrozen", unfollowed := true, recurses := true, apart := false }
def SegFrozenSaid : Prop := segFrozenRow.holds Try.pinned (OpenSpec.ofChange segFrozenSpec)

/-- ITS FALSE NEIGHBOUR: 'it returns false'. Refute it at one input. -/
def segFrozenWrong : ChangeSpec := { name := "segFrozen", fn := fun _ => fun
  | [d1, d2] => { results := [.lit (.bool false)], args := [d1, d2] }
  | _ => none }
def SegFrozenWrongFalsely : Prop := segFrozenRow.holds Try.pinned (OpenSpec.ofChange segFrozenWrong)

/-- 'spoollaw19.SegLasts': WHATEVER THE INPUT: true; the input reads as it did. -/
def segLastsSpec : ChangeSpec := { name := "segLasts", fn := fun _ => fun
  | [d1, d2] => { results := [.lit (.bool true)], args := [d1, d2] }
  | _ => none }
def segLastsRow : OpenClaim := { program := "ytmaaljfcnnlnpaa", sum := "c3d5f39ce5dd6f62dc93bc4f49b63866172e76996f78eab67d47173f291500d0", func := "spool/spoollaw19.SegLasts", spec := "segLasts", unfollowed := true, recurses := true, apart := false }
def SegLastsSaid : Prop := segLastsRow.holds Try.pinned (OpenSpec.ofChange segLastsSpec)

/-- ITS FALSE NEIGHBOUR: 'it returns false'. Refute it at one input. -/
def segLastsWrong : ChangeSpec := { name := "segLasts", fn := fun _ => fun
  | [d1, d2] => { results := [.lit (.bool false)], args := [d1, d2] }
  | _ => none }
def SegLastsWrongFalsely : Prop := segLastsRow.holds Try.pinned (OpenSpec.ofChange segLastsWrong)

/- THE SECOND FORM. 'bulk': how many values and letters a reading holds, each counted each time it is reached (what is shared counts as often as it is met; a slice's spare places count too). A statement '..UptoSaid' is the law's where the arguments, and the package variables that the reading takes, are together of bulk at most 1048576: NARROWER than '..Said'. Prove '..Said' where nothing that the law and all that it calls make is longer than what came in: it says more and counts as full. Else prove '..UptoSaid'. A law counts once. -/
mutual
def uptoBulk {H : Type} : DataW H → Nat
  | .lit (.string bytes) => bytes.length + 1
  | .lit _ => 1
  | .nil => 1
  | .ptr d => uptoBulk d + 1
  | .slice elems spare => uptoBulkAll elems + uptoBulkAll spare + 1
  | .agg parts => uptoBulkAll parts + 1
  | .iface _ d => uptoBulk d + 1
  | .map entries => uptoBulkEntries entries + 1
  | .held _ => 1
def uptoBulkAll {H : Type} : List (DataW H) → Nat
  | [] => 0
  | d :: r => uptoBulk d + uptoBulkAll r
def uptoBulkEntries {H : Type} : List (Lit × DataW H) → Nat
  | [] => 0
  | x :: r => uptoBulkEntry x + uptoBulkEntries r
def uptoBulkEntry {H : Type} : Lit × DataW H → Nat
  | (.string bytes, d) => bytes.length + uptoBulk d + 1
  | (_, d) => uptoBulk d + 1
 end
def uptoSmall : (H : Type) → List (DataW H) → Bool := fun _ ds => decide (uptoBulkAll ds ≤ 1048576)
def OpenSpec.upto (s : _root_.Go.ChangeSpec) : _root_.Go.OpenSpec := { _root_.Go.OpenSpec.ofChange s with cond := some uptoSmall }

/-- 'spoollaw02.CrcBursts', WHERE WHAT IT READS IS OF BULK AT MOST 1048576: true; the input reads as it did. -/
def crcBurstsUptoRow : OpenClaim := { program := "ytmaaljfcnnlnpaa", sum := "c3d5f39ce5dd6f62dc93bc4f49b63866172e76996f78eab67d47173f291500d0", func := "spool/spoollaw02.CrcBursts", spec := "crcBursts", unfollowed := true, recurses := true, apart := false, narrowed := true }
def CrcBurstsUptoSaid : Prop := crcBurstsUptoRow.holds Try.pinned (OpenSpec.upto crcBurstsSpec)

/-- 'spoollaw02.CrcMore', WHERE WHAT IT READS IS OF BULK AT MOST 1048576: true; the input reads as it did. -/
def crcMoreUptoRow : OpenClaim := { program := "ytmaaljfcnnlnpaa", sum := "c3d5f39ce5dd6f62dc93bc4f49b63866172e76996f78eab67d47173f291500d0", func := "spool/spoollaw02.CrcMore", spec := "crcMore", unfollowed := true, recurses := true, apart := false, narrowed := true }
def CrcMoreUptoSaid : Prop := crcMoreUptoRow.holds Try.pinned (OpenSpec.upto crcMoreSpec)

/-- 'spoollaw02.CrcLine', WHERE WHAT IT READS IS OF BULK AT MOST 1048576: true; the input reads as it did. -/
def crcLineUptoRow : OpenClaim := { program := "ytmaaljfcnnlnpaa", sum := "c3d5f39ce5dd6f62dc93bc4f49b63866172e76996f78eab67d47173f291500d0", func := "spool/spoollaw02.CrcLine", spec := "crcLine", unfollowed := true, recurses := true, apart := false, narrowed := true }
def CrcLineUptoSaid : Prop := crcLineUptoRow.holds Try.pinned (OpenSpec.upto crcLineSpec)

/-- 'spoollaw02.CrcPlays', WHERE WHAT IT READS IS OF BULK AT MOST 1048576: true; the input reads as it did. -/
def crcPlaysUptoRow : OpenClaim := { program := "ytmaaljfcnnlnpaa", sum := "c3d5f39ce5dd6f62dc93bc4f49b63866172e76996f78eab67d47173f291500d0", func := "spool/spoollaw02.CrcPlays", spec := "crcPlays", unfollowed := true, recurses := true, apart := false, narrowed := true }
def CrcPlaysUptoSaid : Prop := crcPlaysUptoRow.holds Try.pinned (OpenSpec.upto crcPlaysSpec)

/-- 'spoollaw02.CrcNumbers', WHERE WHAT IT READS IS OF BULK AT MOST 1048576: true; the input reads as it did. -/
def crcNumbersUptoRow : OpenClaim := { program := "ytmaaljfcnnlnpaa", sum := "c3d5f39ce5dd6f62dc93bc4f49b63866172e76996f78eab67d47173f291500d0", func := "spool/spoollaw02.CrcNumbers", spec := "crcNumbers", unfollowed := true, recurses := true, apart := false, narrowed := true }
def CrcNumbersUptoSaid : Prop := crcNumbersUptoRow.holds Try.pinned (OpenSpec.upto crcNumbersSpec)

/-- 'spoollaw18.FragPlays', WHERE WHAT IT READS IS OF BULK AT MOST 1048576: true; the input reads as it did. -/
def fragPlaysUptoRow : OpenClaim := { program := "ytmaaljfcnnlnpaa", sum := "c3d5f39ce5dd6f62dc93bc4f49b63866172e76996f78eab67d47173f291500d0", func := "spool/spoollaw18.FragPlays", spec := "fragPlays", unfollowed := true, recurses := true, apart := false, narrowed := true }
def FragPlaysUptoSaid : Prop := fragPlaysUptoRow.holds Try.pinned (OpenSpec.upto fragPlaysSpec)

/-- 'spooltop.WholePages', WHERE WHAT IT READS IS OF BULK AT MOST 1048576: true; the input reads as it did. -/
def wholePagesUptoRow : OpenClaim := { program := "ytmaaljfcnnlnpaa", sum := "c3d5f39ce5dd6f62dc93bc4f49b63866172e76996f78eab67d47173f291500d0", func := "spool/spooltop.WholePages", spec := "wholePages", unfollowed := true, recurses := true, apart := false, narrowed := true }
def WholePagesUptoSaid : Prop := wholePagesUptoRow.holds Try.pinned (OpenSpec.upto wholePagesSpec)

/-- 'spoollaw18.FragBack', WHERE WHAT IT READS IS OF BULK AT MOST 1048576: true; the input reads as it did. -/
def fragBackUptoRow : OpenClaim := { program := "ytmaaljfcnnlnpaa", sum := "c3d5f39ce5dd6f62dc93bc4f49b63866172e76996f78eab67d47173f291500d0", func := "spool/spoollaw18.FragBack", spec := "fragBack", unfollowed := true, recurses := true, apart := false, narrowed := true }
def FragBackUptoSaid : Prop := fragBackUptoRow.holds Try.pinned (OpenSpec.upto fragBackSpec)

/-- 'spoollaw18.FragEpochs', WHERE WHAT IT READS IS OF BULK AT MOST 1048576: true; the input reads as it did. -/
def fragEpochsUptoRow : OpenClaim := { program := "ytmaaljfcnnlnpaa", sum := "c3d5f39ce5dd6f62dc93bc4f49b63866172e76996f78eab67d47173f291500d0", func := "spool/spoollaw18.FragEpochs", spec := "fragEpochs", unfollowed := true, recurses := true, apart := false, narrowed := true }
def FragEpochsUptoSaid : Prop := fragEpochsUptoRow.holds Try.pinned (OpenSpec.upto fragEpochsSpec)

/-- 'spoollaw18.FragRow', WHERE WHAT IT READS IS OF BULK AT MOST 1048576: true; the input reads as it did. -/
def fragRowUptoRow : OpenClaim := { program := "ytmaaljfcnnlnpaa", sum := "c3d5f39ce5dd6f62dc93bc4f49b63866172e76996f78eab67d47173f291500d0", func := "spool/spoollaw18.FragRow", spec := "fragRow", unfollowed := true, recurses := true, apart := false, narrowed := true }
def FragRowUptoSaid : Prop := fragRowUptoRow.holds Try.pinned (OpenSpec.upto fragRowSpec)

/-- 'spoollaw18.FragLong', WHERE WHAT IT READS IS OF BULK AT MOST 1048576: true; the input reads as it did. -/
def fragLongUptoRow : OpenClaim := { program := "ytmaaljfcnnlnpaa", sum := "c3d5f39ce5dd6f62dc93bc4f49b63866172e76996f78eab67d47173f291500d0", func := "spool/spoollaw18.FragLong", spec := "fragLong", unfollowed := true, recurses := true, apart := false, narrowed := true }
def FragLongUptoSaid : Prop := fragLongUptoRow.holds Try.pinned (OpenSpec.upto fragLongSpec)

/-- 'spoollaw16.DiskTwice', WHERE WHAT IT READS IS OF BULK AT MOST 1048576: true; the input reads as it did. -/
def diskTwiceUptoRow : OpenClaim := { program := "ytmaaljfcnnlnpaa", sum := "c3d5f39ce5dd6f62dc93bc4f49b63866172e76996f78eab67d47173f291500d0", func := "spool/spoollaw16.DiskTwice", spec := "diskTwice", unfollowed := true, recurses := true, apart := false, narrowed := true }
def DiskTwiceUptoSaid : Prop := diskTwiceUptoRow.holds Try.pinned (OpenSpec.upto diskTwiceSpec)

/-- 'spoollaw16.DiskLast', WHERE WHAT IT READS IS OF BULK AT MOST 1048576: true; the input reads as it did. -/
def diskLastUptoRow : OpenClaim := { program := "ytmaaljfcnnlnpaa", sum := "c3d5f39ce5dd6f62dc93bc4f49b63866172e76996f78eab67d47173f291500d0", func := "spool/spoollaw16.DiskLast", spec := "diskLast", unfollowed := true, recurses := true, apart := false, narrowed := true }
def DiskLastUptoSaid : Prop := diskLastUptoRow.holds Try.pinned (OpenSpec.upto diskLastSpec)

/-- 'spoollaw17.PageBack', WHERE WHAT IT READS IS OF BULK AT MOST 1048576: true; the input reads as it did. -/
def pageBackUptoRow : OpenClaim := { program := "ytmaaljfcnnlnpaa", sum := "c3d5f39ce5dd6f62dc93bc4f49b63866172e76996f78eab67d47173f291500d0", func := "spool/spoollaw17.PageBack", spec := "pageBack", unfollowed := true, recurses := true, apart := false, narrowed := true }
def PageBackUptoSaid : Prop := pageBackUptoRow.holds Try.pinned (OpenSpec.upto pageBackSpec)

/-- 'spoollaw17.PageOnly', WHERE WHAT IT READS IS OF BULK AT MOST 1048576: true; the input reads as it did. -/
def pageOnlyUptoRow : OpenClaim := { program := "ytmaaljfcnnlnpaa", sum := "c3d5f39ce5dd6f62dc93bc4f49b63866172e76996f78eab67d47173f291500d0", func := "spool/spoollaw17.PageOnly", spec := "pageOnly", unfollowed := true, recurses := true, apart := false, narrowed := true }
def PageOnlyUptoSaid : Prop := pageOnlyUptoRow.holds Try.pinned (OpenSpec.upto pageOnlySpec)

/-- 'spoollaw17.PagePlays', WHERE WHAT IT READS IS OF BULK AT MOST 1048576: true; the input reads as it did. -/
def pagePlaysUptoRow : OpenClaim := { program := "ytmaaljfcnnlnpaa", sum := "c3d5f39ce5dd6f62dc93bc4f49b63866172e76996f78eab67d47173f291500d0", func := "spool/spoollaw17.PagePlays", spec := "pagePlays", unfollowed := true, recurses := true, apart := false, narrowed := true }
def PagePlaysUptoSaid : Prop := pagePlaysUptoRow.holds Try.pinned (OpenSpec.upto pagePlaysSpec)

/-- 'spoollaw17.PageUnlike', WHERE WHAT IT READS IS OF BULK AT MOST 1048576: true; the input reads as it did. -/
def pageUnlikeUptoRow : OpenClaim := { program := "ytmaaljfcnnlnpaa", sum := "c3d5f39ce5dd6f62dc93bc4f49b63866172e76996f78eab67d47173f291500d0", func := "spool/spoollaw17.PageUnlike", spec := "pageUnlike", unfollowed := true, recurses := true, apart := false, narrowed := true }
def PageUnlikeUptoSaid : Prop := pageUnlikeUptoRow.holds Try.pinned (OpenSpec.upto pageUnlikeSpec)

/-- 'spoollaw17.PageHeads', WHERE WHAT IT READS IS OF BULK AT MOST 1048576: true; the input reads as it did. -/
def pageHeadsUptoRow : OpenClaim := { program := "ytmaaljfcnnlnpaa", sum := "c3d5f39ce5dd6f62dc93bc4f49b63866172e76996f78eab67d47173f291500d0", func := "spool/spoollaw17.PageHeads", spec := "pageHeads", unfollowed := true, recurses := true, apart := false, narrowed := true }
def PageHeadsUptoSaid : Prop := pageHeadsUptoRow.holds Try.pinned (OpenSpec.upto pageHeadsSpec)

/-- 'spoollaw16.DiskSure', WHERE WHAT IT READS IS OF BULK AT MOST 1048576: true; the input reads as it did. -/
def diskSureUptoRow : OpenClaim := { program := "ytmaaljfcnnlnpaa", sum := "c3d5f39ce5dd6f62dc93bc4f49b63866172e76996f78eab67d47173f291500d0", func := "spool/spoollaw16.DiskSure", spec := "diskSure", unfollowed := true, recurses := true, apart := false, narrowed := true }
def DiskSureUptoSaid : Prop := diskSureUptoRow.holds Try.pinned (OpenSpec.upto diskSureSpec)

/-- 'spoollaw16.DiskPlays', WHERE WHAT IT READS IS OF BULK AT MOST 1048576: true; the input reads as it did. -/
def diskPlaysUptoRow : OpenClaim := { program := "ytmaaljfcnnlnpaa", sum := "c3d5f39ce5dd6f62dc93bc4f49b63866172e76996f78eab67d47173f291500d0", func := "spool/spoollaw16.DiskPlays", spec := "diskPlays", unfollowed := true, recurses := true, apart := false, narrowed := true }
def DiskPlaysUptoSaid : Prop := diskPlaysUptoRow.holds Try.pinned (OpenSpec.upto diskPlaysSpec)

/-- 'spoollaw16.DiskFused', WHERE WHAT IT READS IS OF BULK AT MOST 1048576: true; the input reads as it did. -/
def diskFusedUptoRow : OpenClaim := { program := "ytmaaljfcnnlnpaa", sum := "c3d5f39ce5dd6f62dc93bc4f49b63866172e76996f78eab67d47173f291500d0", func := "spool/spoollaw16.DiskFused", spec := "diskFused", unfollowed := true, recurses := true, apart := false, narrowed := true }
def DiskFusedUptoSaid : Prop := diskFusedUptoRow.holds Try.pinned (OpenSpec.upto diskFusedSpec)

/-- 'spoollaw19.SegNeeds', WHERE WHAT IT READS IS OF BULK AT MOST 1048576: true; the input reads as it did. -/
def segNeedsUptoRow : OpenClaim := { program := "ytmaaljfcnnlnpaa", sum := "c3d5f39ce5dd6f62dc93bc4f49b63866172e76996f78eab67d47173f291500d0", func := "spool/spoollaw19.SegNeeds", spec := "segNeeds", unfollowed := true, recurses := true, apart := false, narrowed := true }
def SegNeedsUptoSaid : Prop := segNeedsUptoRow.holds Try.pinned (OpenSpec.upto segNeedsSpec)

/-- 'spoollaw19.SegFull', WHERE WHAT IT READS IS OF BULK AT MOST 1048576: true; the input reads as it did. -/
def segFullUptoRow : OpenClaim := { program := "ytmaaljfcnnlnpaa", sum := "c3d5f39ce5dd6f62dc93bc4f49b63866172e76996f78eab67d47173f291500d0", func := "spool/spoollaw19.SegFull", spec := "segFull", unfollowed := true, recurses := true, apart := false, narrowed := true }
def SegFullUptoSaid : Prop := segFullUptoRow.holds Try.pinned (OpenSpec.upto segFullSpec)

/-- 'spoollaw19.SegFrozen', WHERE WHAT IT READS IS OF BULK AT MOST 1048576: true; the input reads as it did. -/
def segFrozenUptoRow : OpenClaim := { program := "ytmaaljfcnnlnpaa", sum := "c3d5f39ce5dd6f62dc93bc4f49b63866172e76996f78eab67d47173f291500d0", func := "spool/spoollaw19.SegFrozen", spec := "segFrozen", unfollowed := true, recurses := true, apart := false, narrowed := true }
def SegFrozenUptoSaid : Prop := segFrozenUptoRow.holds Try.pinned (OpenSpec.upto segFrozenSpec)

/-- 'spoollaw19.SegLasts', WHERE WHAT IT READS IS OF BULK AT MOST 1048576: true; the input reads as it did. -/
def segLastsUptoRow : OpenClaim := { program := "ytmaaljfcnnlnpaa", sum := "c3d5f39ce5dd6f62dc93bc4f49b63866172e76996f78eab67d47173f291500d0", func := "spool/spoollaw19.SegLasts", spec := "segLasts", unfollowed := true, recurses := true, apart := false, narrowed := true }
def SegLastsUptoSaid : Prop := segLastsUptoRow.holds Try.pinned (OpenSpec.upto segLastsSpec)

end Rows
end Go.Proofs.Ytmaaljfcnnlnpaa
