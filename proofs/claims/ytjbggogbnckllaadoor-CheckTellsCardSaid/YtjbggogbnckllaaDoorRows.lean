/-
  NARROWER THAN 'FOR EVERY INPUT', by the rows' own cells (each row's printed sentence says how): FirstNothing: laid · FirstSentences: laid · FirstGrows: laid · FirstTells: laid · FirstCloses: laid · FirstJoins: laid · CheckTells: laid · CheckShortest: laid · CheckLoose: laid · CheckCloses: laid · CheckGrows: laid.
  DERIVED. THE GIVEN ROWS OF THIS SEAT. 11 by the template 'for every input the law returns true; each argument reads behind the call as it read before'; 0 by the template 'total and deterministic' (their statements: YtjbggogbnckllaaDoorTotals.lean).
  GIVEN WITH THE SEED: the statements are not yours to turn. If you find one false, say at which input.
  Laid BY PROGRAM, IN A SANDBOX (cutbox-rows.mjs): the forced cells as the released guide's own fill.sh prints them over the translation 9aac2b55729f98fd… (all of the seat's roots in one cut). By AI agents, Wed Nov 11 2026. No macro, syntax, notation, axiom, sorry.
-/
import Derived.Test.YtjbggogbnckllaaDoorChecked
import GoSem.Claim
import GoSem.ClaimJoined
import GoSem.ClaimMapViews
import Derived.JoinedTies
import Derived.KernelRfl
namespace Go.Proofs.YtjbggogbnckllaaDoor
/- THE CELL 'sum', in the pinned program and in every row, IS THE sha256 OF THE DUMP (.gsa) THAT YtjbggogbnckllaaDoorProg.lean LOADS. Nothing in Lean hashes anything: it is a label: what it is worth is what the hold of that sum in a sandbox is worth. -/
noncomputable def Tryd.pinned : Pinned := { name := "ytjbggogbnckllaadoor", sum := "9aac2b55729f98fd66ac2c0053ce264bb9958934031ea9af3db50938c6634db4", checked := Tryd.checked }
namespace Rows
def none {H : Type} : Left H := { results := [], args := [] }

/- WHAT THE LISTED PACKAGE-LEVEL VARIABLES READ AS WHEN THE CALL BEGINS. Each datum BY PROGRAM (the guide's laid-datum.mjs) off the statement by which the dump's own 'gosem.cut.vars' lays the variable. In a bare row this is a premise. The card (YtjbggogbnckllaaDoorCards.lean) ties it to the program's text. -/
def laid_math_bits_deBruijn64tab {H : Type} : DataW H := .agg [.lit (.int .u8 0), .lit (.int .u8 1), .lit (.int .u8 56), .lit (.int .u8 2), .lit (.int .u8 57), .lit (.int .u8 49), .lit (.int .u8 28), .lit (.int .u8 3), .lit (.int .u8 61), .lit (.int .u8 58), .lit (.int .u8 42), .lit (.int .u8 50), .lit (.int .u8 38), .lit (.int .u8 29), .lit (.int .u8 17), .lit (.int .u8 4), .lit (.int .u8 62), .lit (.int .u8 47), .lit (.int .u8 59), .lit (.int .u8 36), .lit (.int .u8 45), .lit (.int .u8 43), .lit (.int .u8 51), .lit (.int .u8 22), .lit (.int .u8 53), .lit (.int .u8 39), .lit (.int .u8 33), .lit (.int .u8 30), .lit (.int .u8 24), .lit (.int .u8 18), .lit (.int .u8 12), .lit (.int .u8 5), .lit (.int .u8 63), .lit (.int .u8 55), .lit (.int .u8 48), .lit (.int .u8 27), .lit (.int .u8 60), .lit (.int .u8 41), .lit (.int .u8 37), .lit (.int .u8 16), .lit (.int .u8 46), .lit (.int .u8 35), .lit (.int .u8 44), .lit (.int .u8 21), .lit (.int .u8 52), .lit (.int .u8 32), .lit (.int .u8 23), .lit (.int .u8 11), .lit (.int .u8 54), .lit (.int .u8 26), .lit (.int .u8 40), .lit (.int .u8 15), .lit (.int .u8 34), .lit (.int .u8 20), .lit (.int .u8 31), .lit (.int .u8 10), .lit (.int .u8 25), .lit (.int .u8 14), .lit (.int .u8 19), .lit (.int .u8 9), .lit (.int .u8 13), .lit (.int .u8 8), .lit (.int .u8 7), .lit (.int .u8 6)]

/-- 'tronagelaw10.FirstNothing': WHATEVER THE INPUT: true; the input reads as it did. -/
def firstNothingSpec : ChangeSpec := { name := "firstNothing", fn := fun _ => fun
  | [d] => { results := [.lit (.bool true)], args := [d] }
  | _ => none }
def firstNothingRow : OpenClaim := { program := "ytjbggogbnckllaadoor", sum := "9aac2b55729f98fd66ac2c0053ce264bb9958934031ea9af3db50938c6634db4", func := "tronage/tronagelaw10.FirstNothing", spec := "firstNothing", unfollowed := true, recurses := true, named := ["math/bits.deBruijn64tab"], apart := false, laid := [("math/bits.deBruijn64tab", laid_math_bits_deBruijn64tab)] }
def FirstNothingSaid : Prop := firstNothingRow.holds Tryd.pinned (OpenSpec.ofChange firstNothingSpec)

/-- ITS FALSE NEIGHBOUR: 'it returns false'. Refute it at one input. -/
def firstNothingWrong : ChangeSpec := { name := "firstNothing", fn := fun _ => fun
  | [d] => { results := [.lit (.bool false)], args := [d] }
  | _ => none }
def FirstNothingWrongFalsely : Prop := firstNothingRow.holds Tryd.pinned (OpenSpec.ofChange firstNothingWrong)

/-- 'tronagelaw10.FirstSentences': WHATEVER THE INPUT: true; the input reads as it did. -/
def firstSentencesSpec : ChangeSpec := { name := "firstSentences", fn := fun _ => fun
  | [d] => { results := [.lit (.bool true)], args := [d] }
  | _ => none }
def firstSentencesRow : OpenClaim := { program := "ytjbggogbnckllaadoor", sum := "9aac2b55729f98fd66ac2c0053ce264bb9958934031ea9af3db50938c6634db4", func := "tronage/tronagelaw10.FirstSentences", spec := "firstSentences", unfollowed := true, recurses := true, named := ["math/bits.deBruijn64tab"], apart := false, laid := [("math/bits.deBruijn64tab", laid_math_bits_deBruijn64tab)] }
def FirstSentencesSaid : Prop := firstSentencesRow.holds Tryd.pinned (OpenSpec.ofChange firstSentencesSpec)

/-- ITS FALSE NEIGHBOUR: 'it returns false'. Refute it at one input. -/
def firstSentencesWrong : ChangeSpec := { name := "firstSentences", fn := fun _ => fun
  | [d] => { results := [.lit (.bool false)], args := [d] }
  | _ => none }
def FirstSentencesWrongFalsely : Prop := firstSentencesRow.holds Tryd.pinned (OpenSpec.ofChange firstSentencesWrong)

/-- 'tronagelaw10.FirstGrows': WHATEVER THE INPUT: true; the input reads as it did. -/
def firstGrowsSpec : ChangeSpec := { name := "firstGrows", fn := fun _ => fun
  | [d1, d2, d3] => { results := [.lit (.bool true)], args := [d1, d2, d3] }
  | _ => none }
def firstGrowsRow : OpenClaim := { program := "ytjbggogbnckllaadoor", sum := "9aac2b55729f98fd66ac2c0053ce264bb9958934031ea9af3db50938c6634db4", func := "tronage/tronagelaw10.FirstGrows", spec := "firstGrows", unfollowed := true, recurses := true, named := ["math/bits.deBruijn64tab"], apart := false, laid := [("math/bits.deBruijn64tab", laid_math_bits_deBruijn64tab)] }
def FirstGrowsSaid : Prop := firstGrowsRow.holds Tryd.pinned (OpenSpec.ofChange firstGrowsSpec)

/-- ITS FALSE NEIGHBOUR: 'it returns false'. Refute it at one input. -/
def firstGrowsWrong : ChangeSpec := { name := "firstGrows", fn := fun _ => fun
  | [d1, d2, d3] => { results := [.lit (.bool false)], args := [d1, d2, d3] }
  | _ => none }
def FirstGrowsWrongFalsely : Prop := firstGrowsRow.holds Tryd.pinned (OpenSpec.ofChange firstGrowsWrong)

/-- 'tronagelaw10.FirstTells': WHATEVER THE INPUT: true; the input reads as it did. -/
def firstTellsSpec : ChangeSpec := { name := "firstTells", fn := fun _ => fun
  | [d1, d2, d3] => { results := [.lit (.bool true)], args := [d1, d2, d3] }
  | _ => none }
def firstTellsRow : OpenClaim := { program := "ytjbggogbnckllaadoor", sum := "9aac2b55729f98fd66ac2c0053ce264bb9958934031ea9af3db50938c6634db4", func := "tronage/tronagelaw10.FirstTells", spec := "firstTells", unfollowed := true, recurses := true, named := ["math/bits.deBruijn64tab"], apart := false, laid := [("math/bits.deBruijn64tab", laid_math_bits_deBruijn64tab)] }
def FirstTellsSaid : Prop := firstTellsRow.holds Tryd.pinned (OpenSpec.ofChange firstTellsSpec)

/-- ITS FALSE NEIGHBOUR: 'it returns false'. Refute it at one input. -/
def firstTellsWrong : ChangeSpec := { name := "firstTells", fn := fun _ => fun
  | [d1, d2, d3] => { results := [.lit (.bool false)], args := [d1, d2, d3] }
  | _ => none }
def FirstTellsWrongFalsely : Prop := firstTellsRow.holds Tryd.pinned (OpenSpec.ofChange firstTellsWrong)

/-- 'tronagelaw10.FirstCloses': WHATEVER THE INPUT: true; the input reads as it did. -/
def firstClosesSpec : ChangeSpec := { name := "firstCloses", fn := fun _ => fun
  | [d] => { results := [.lit (.bool true)], args := [d] }
  | _ => none }
def firstClosesRow : OpenClaim := { program := "ytjbggogbnckllaadoor", sum := "9aac2b55729f98fd66ac2c0053ce264bb9958934031ea9af3db50938c6634db4", func := "tronage/tronagelaw10.FirstCloses", spec := "firstCloses", unfollowed := true, recurses := true, named := ["math/bits.deBruijn64tab"], apart := false, laid := [("math/bits.deBruijn64tab", laid_math_bits_deBruijn64tab)] }
def FirstClosesSaid : Prop := firstClosesRow.holds Tryd.pinned (OpenSpec.ofChange firstClosesSpec)

/-- ITS FALSE NEIGHBOUR: 'it returns false'. Refute it at one input. -/
def firstClosesWrong : ChangeSpec := { name := "firstCloses", fn := fun _ => fun
  | [d] => { results := [.lit (.bool false)], args := [d] }
  | _ => none }
def FirstClosesWrongFalsely : Prop := firstClosesRow.holds Tryd.pinned (OpenSpec.ofChange firstClosesWrong)

/-- 'tronagelaw10.FirstJoins': WHATEVER THE INPUT: true; the input reads as it did. -/
def firstJoinsSpec : ChangeSpec := { name := "firstJoins", fn := fun _ => fun
  | [d1, d2, d3] => { results := [.lit (.bool true)], args := [d1, d2, d3] }
  | _ => none }
def firstJoinsRow : OpenClaim := { program := "ytjbggogbnckllaadoor", sum := "9aac2b55729f98fd66ac2c0053ce264bb9958934031ea9af3db50938c6634db4", func := "tronage/tronagelaw10.FirstJoins", spec := "firstJoins", unfollowed := true, recurses := true, named := ["math/bits.deBruijn64tab"], apart := false, laid := [("math/bits.deBruijn64tab", laid_math_bits_deBruijn64tab)] }
def FirstJoinsSaid : Prop := firstJoinsRow.holds Tryd.pinned (OpenSpec.ofChange firstJoinsSpec)

/-- ITS FALSE NEIGHBOUR: 'it returns false'. Refute it at one input. -/
def firstJoinsWrong : ChangeSpec := { name := "firstJoins", fn := fun _ => fun
  | [d1, d2, d3] => { results := [.lit (.bool false)], args := [d1, d2, d3] }
  | _ => none }
def FirstJoinsWrongFalsely : Prop := firstJoinsRow.holds Tryd.pinned (OpenSpec.ofChange firstJoinsWrong)

/-- 'tronagelaw09.CheckTells': WHATEVER THE INPUT: true; the input reads as it did. -/
def checkTellsSpec : ChangeSpec := { name := "checkTells", fn := fun _ => fun
  | [d1, d2, d3] => { results := [.lit (.bool true)], args := [d1, d2, d3] }
  | _ => none }
def checkTellsRow : OpenClaim := { program := "ytjbggogbnckllaadoor", sum := "9aac2b55729f98fd66ac2c0053ce264bb9958934031ea9af3db50938c6634db4", func := "tronage/tronagelaw09.CheckTells", spec := "checkTells", unfollowed := true, recurses := true, named := ["math/bits.deBruijn64tab"], apart := false, laid := [("math/bits.deBruijn64tab", laid_math_bits_deBruijn64tab)] }
def CheckTellsSaid : Prop := checkTellsRow.holds Tryd.pinned (OpenSpec.ofChange checkTellsSpec)

/-- ITS FALSE NEIGHBOUR: 'it returns false'. Refute it at one input. -/
def checkTellsWrong : ChangeSpec := { name := "checkTells", fn := fun _ => fun
  | [d1, d2, d3] => { results := [.lit (.bool false)], args := [d1, d2, d3] }
  | _ => none }
def CheckTellsWrongFalsely : Prop := checkTellsRow.holds Tryd.pinned (OpenSpec.ofChange checkTellsWrong)

/-- 'tronagelaw09.CheckShortest': WHATEVER THE INPUT: true; the input reads as it did. -/
def checkShortestSpec : ChangeSpec := { name := "checkShortest", fn := fun _ => fun
  | [d] => { results := [.lit (.bool true)], args := [d] }
  | _ => none }
def checkShortestRow : OpenClaim := { program := "ytjbggogbnckllaadoor", sum := "9aac2b55729f98fd66ac2c0053ce264bb9958934031ea9af3db50938c6634db4", func := "tronage/tronagelaw09.CheckShortest", spec := "checkShortest", unfollowed := true, recurses := true, named := ["math/bits.deBruijn64tab"], apart := false, laid := [("math/bits.deBruijn64tab", laid_math_bits_deBruijn64tab)] }
def CheckShortestSaid : Prop := checkShortestRow.holds Tryd.pinned (OpenSpec.ofChange checkShortestSpec)

/-- ITS FALSE NEIGHBOUR: 'it returns false'. Refute it at one input. -/
def checkShortestWrong : ChangeSpec := { name := "checkShortest", fn := fun _ => fun
  | [d] => { results := [.lit (.bool false)], args := [d] }
  | _ => none }
def CheckShortestWrongFalsely : Prop := checkShortestRow.holds Tryd.pinned (OpenSpec.ofChange checkShortestWrong)

/-- 'tronagelaw09.CheckLoose': WHATEVER THE INPUT: true; the input reads as it did. -/
def checkLooseSpec : ChangeSpec := { name := "checkLoose", fn := fun _ => fun
  | [d] => { results := [.lit (.bool true)], args := [d] }
  | _ => none }
def checkLooseRow : OpenClaim := { program := "ytjbggogbnckllaadoor", sum := "9aac2b55729f98fd66ac2c0053ce264bb9958934031ea9af3db50938c6634db4", func := "tronage/tronagelaw09.CheckLoose", spec := "checkLoose", unfollowed := true, recurses := true, named := ["math/bits.deBruijn64tab"], apart := false, laid := [("math/bits.deBruijn64tab", laid_math_bits_deBruijn64tab)] }
def CheckLooseSaid : Prop := checkLooseRow.holds Tryd.pinned (OpenSpec.ofChange checkLooseSpec)

/-- ITS FALSE NEIGHBOUR: 'it returns false'. Refute it at one input. -/
def checkLooseWrong : ChangeSpec := { name := "checkLoose", fn := fun _ => fun
  | [d] => { results := [.lit (.bool false)], args := [d] }
  | _ => none }
def CheckLooseWrongFalsely : Prop := checkLooseRow.holds Tryd.pinned (OpenSpec.ofChange checkLooseWrong)

/-- 'tronagelaw09.CheckCloses': WHATEVER THE INPUT: true; the input reads as it did. -/
def checkClosesSpec : ChangeSpec := { name := "checkCloses", fn := fun _ => fun
  | [d] => { results := [.lit (.bool true)], args := [d] }
  | _ => none }
def checkClosesRow : OpenClaim := { program := "ytjbggogbnckllaadoor", sum := "9aac2b55729f98fd66ac2c0053ce264bb9958934031ea9af3db50938c6634db4", func := "tronage/tronagelaw09.CheckCloses", spec := "checkCloses", unfollowed := true, recurses := true, named := ["math/bits.deBruijn64tab"], apart := false, laid := [("math/bits.deBruijn64tab", laid_math_bits_deBruijn64tab)] }
def CheckClosesSaid : Prop := checkClosesRow.holds Tryd.pinned (OpenSpec.ofChange checkClosesSpec)

/-- ITS FALSE NEIGHBOUR: 'it returns false'. Refute it at one input. -/
def checkClosesWrong : ChangeSpec := { name := "checkCloses", fn := fun _ => fun
  | [d] => { results := [.lit (.bool false)], args := [d] }
  | _ => none }
def CheckClosesWrongFalsely : Prop := checkClosesRow.holds Tryd.pinned (OpenSpec.ofChange checkClosesWrong)

/-- 'tronagelaw09.CheckGrows': WHATEVER THE INPUT: true; the input reads as it did. -/
def checkGrowsSpec : ChangeSpec := { name := "checkGrows", fn := fun _ => fun
  | [d1, d2, d3] => { results := [.lit (.bool true)], args := [d1, d2, d3] }
  | _ => none }
def checkGrowsRow : OpenClaim := { program := "ytjbggogbnckllaadoor", sum := "9aac2b55729f98fd66ac2c0053ce264bb9958934031ea9af3db50938c6634db4", func := "tronage/tronagelaw09.CheckGrows", spec := "checkGrows", unfollowed := true, recurses := true, named := ["math/bits.deBruijn64tab"], apart := false, laid := [("math/bits.deBruijn64tab", laid_math_bits_deBruijn64tab)] }
def CheckGrowsSaid : Prop := checkGrowsRow.holds Tryd.pinned (OpenSpec.ofChange checkGrowsSpec)

/-- ITS FALSE NEIGHBOUR: 'it returns false'. Refute it at one input. -/
def checkGrowsWrong : ChangeSpec := { name := "checkGrows", fn := fun _ => fun
  | [d1, d2, d3] => { results := [.lit (.bool false)], args := [d1, d2, d3] }
  | _ => none }
def CheckGrowsWrongFalsely : Prop := checkGrowsRow.holds Tryd.pinned (OpenSpec.ofChange checkGrowsWrong)

/- THE SECOND FORM. 'bulk': how many values and letters a reading holds, each counted each time it is reached (what is shared counts as often as it is met; a slice's spare places count too). A statement '..UptoSaid' is the law's where the arguments, and the package variables that the reading takes, are together of bulk at most 1048576: NARROWER than '..Said'. Prove '..Said' where nothing that the law and all that it calls make is longer than what came in: it says more and counts as full. Else prove '..UptoSaid'. A law counts once. -/
mutual
def uptoBulk {H : Type} : DataW H → Nat
  | .lit (.string bytes) => bytes.length + 1
  | .lit _ => 1
  | .nil => 1
  | .ptr d => uptoBulk d + 1
  | .slice elems spare => uptoBulkAll elems + uptoBulkAll spare + 1
  | .agg parts => uptoBulkAll parts + 1
  | .iface _ d => uptoBulk d + 1
  | .map entries => uptoBulkEntries entries + 1
  | .held _ => 1
def uptoBulkAll {H : Type} : List (DataW H) → Nat
  | [] => 0
  | d :: r => uptoBulk d + uptoBulkAll r
def uptoBulkEntries {H : Type} : List (Lit × DataW H) → Nat
  | [] => 0
  | x :: r => uptoBulkEntry x + uptoBulkEntries r
def uptoBulkEntry {H : Type} : Lit × DataW H → Nat
  | (.string bytes, d) => bytes.length + uptoBulk d + 1
  | (_, d) => uptoBulk d + 1
 end
def uptoSmall : (H : Type) → List (DataW H) → Bool := fun _ ds => decide (uptoBulkAll ds ≤ 1048576)
def OpenSpec.upto (s : _root_.Go.ChangeSpec) : _root_.Go.OpenSpec := { _root_.Go.OpenSpec.ofChange s with cond := some uptoSmall }

/-- 'tronagelaw10.FirstNothing', WHERE WHAT IT READS IS OF BULK AT MOST 1048576: true; the input reads as it did. -/
def firstNothingUptoRow : OpenClaim := { program := "ytjbggogbnckllaadoor", sum := "9aac2b55729f98fd66ac2c0053ce264bb9958934031ea9af3db50938c6634db4", func := "tronage/tronagelaw10.FirstNothing", spec := "firstNothing", unfollowed := true, recurses := true, named := ["math/bits.deBruijn64tab"], apart := false, laid := [("math/bits.deBruijn64tab", laid_math_bits_deBruijn64tab)], narrowed := true }
def FirstNothingUptoSaid : Prop := firstNothingUptoRow.holds Tryd.pinned (OpenSpec.upto firstNothingSpec)

/-- 'tronagelaw10.FirstSentences', WHERE WHAT IT READS IS OF BULK AT MOST 1048576: true; the input reads as it did. -/
def firstSentencesUptoRow : OpenClaim := { program := "ytjbggogbnckllaadoor", sum := "9aac2b55729f98fd66ac2c0053ce264bb9958934031ea9af3db50938c6634db4", func := "tronage/tronagelaw10.FirstSentences", spec := "firstSentences", unfollowed := true, recurses := true, named := ["math/bits.deBruijn64tab"], apart := false, laid := [("math/bits.deBruijn64tab", laid_math_bits_deBruijn64tab)], narrowed := true }
def FirstSentencesUptoSaid : Prop := firstSentencesUptoRow.holds Tryd.pinned (OpenSpec.upto firstSentencesSpec)

/-- 'tronagelaw10.FirstGrows', WHERE WHAT IT READS IS OF BULK AT MOST 1048576: true; the input reads as it did. -/
def firstGrowsUptoRow : OpenClaim := { program := "ytjbggogbnckllaadoor", sum := "9aac2b55729f98fd66ac2c0053ce264bb9958934031ea9af3db50938c6634db4", func := "tronage/tronagelaw10.FirstGrows", spec := "firstGrows", unfollowed := true, recurses := true, named := ["math/bits.deBruijn64tab"], apart := false, laid := [("math/bits.deBruijn64tab", laid_math_bits_deBruijn64tab)], narrowed := true }
def FirstGrowsUptoSaid : Prop := firstGrowsUptoRow.holds Tryd.pinned (OpenSpec.upto firstGrowsSpec)

/-- 'tronagelaw10.FirstTells', WHERE WHAT IT READS IS OF BULK AT MOST 1048576: true; the input reads as it did. -/
def firstTellsUptoRow : OpenClaim := { program := "ytjbggogbnckllaadoor", sum := "9aac2b55729f98fd66ac2c0053ce264bb9958934031ea9af3db50938c6634db4", func := "tronage/tronagelaw10.FirstTells", spec := "firstTells", unfollowed := true, recurses := true, named := ["math/bits.deBruijn64tab"], apart := false, laid := [("math/bits.deBruijn64tab", laid_math_bits_deBruijn64tab)], narrowed := true }
def FirstTellsUptoSaid : Prop := firstTellsUptoRow.holds Tryd.pinned (OpenSpec.upto firstTellsSpec)

/-- 'tronagelaw10.FirstCloses', WHERE WHAT IT READS IS OF BULK AT MOST 1048576: true; the input reads as it did. -/
def firstClosesUptoRow : OpenClaim := { program := "ytjbggogbnckllaadoor", sum := "9aac2b55729f98fd66ac2c0053ce264bb9958934031ea9af3db50938c6634db4", func := "tronage/tronagelaw10.FirstCloses", spec := "firstCloses", unfollowed := true, recurses := true, named := ["math/bits.deBruijn64tab"], apart := false, laid := [("math/bits.deBruijn64tab", laid_math_bits_deBruijn64tab)], narrowed := true }
def FirstClosesUptoSaid : Prop := firstClosesUptoRow.holds Tryd.pinned (OpenSpec.upto firstClosesSpec)

/-- 'tronagelaw10.FirstJoins', WHERE WHAT IT READS IS OF BULK AT MOST 1048576: true; the input reads as it did. -/
def firstJoinsUptoRow : OpenClaim := { program := "ytjbggogbnckllaadoor", sum := "9aac2b55729f98fd66ac2c0053ce264bb9958934031ea9af3db50938c6634db4", func := "tronage/tronagelaw10.FirstJoins", spec := "firstJoins", unfollowed := true, recurses := true, named := ["math/bits.deBruijn64tab"], apart := false, laid := [("math/bits.deBruijn64tab", laid_math_bits_deBruijn64tab)], narrowed := true }
def FirstJoinsUptoSaid : Prop := firstJoinsUptoRow.holds Tryd.pinned (OpenSpec.upto firstJoinsSpec)

/-- 'tronagelaw09.CheckTells', WHERE WHAT IT READS IS OF BULK AT MOST 1048576: true; the input reads as it did. -/
def checkTellsUptoRow : OpenClaim := { program := "ytjbggogbnckllaadoor", sum := "9aac2b55729f98fd66ac2c0053ce264bb9958934031ea9af3db50938c6634db4", func := "tronage/tronagelaw09.CheckTells", spec := "checkTells", unfollowed := true, recurses := true, named := ["math/bits.deBruijn64tab"], apart := false, laid := [("math/bits.deBruijn64tab", laid_math_bits_deBruijn64tab)], narrowed := true }
def CheckTellsUptoSaid : Prop := checkTellsUptoRow.holds Tryd.pinned (OpenSpec.upto checkTellsSpec)

/-- 'tronagelaw09.CheckShortest', WHERE WHAT IT READS IS OF BULK AT MOST 1048576: true; the input reads as it did. -/
def checkShortestUptoRow : OpenClaim := { program := "ytjbggogbnckllaadoor", sum := "9aac2b55729f98fd66ac2c0053ce264bb9958934031ea9af3db50938c6634db4", func := "tronage/tronagelaw09.CheckShortest", spec := "checkShortest", unfollowed := true, recurses := true, named := ["math/bits.deBruijn64tab"], apart := false, laid := [("math/bits.deBruijn64tab", laid_math_bits_deBruijn64tab)], narrowed := true }
def CheckShortestUptoSaid : Prop := checkShortestUptoRow.holds Tryd.pinned (OpenSpec.upto checkShortestSpec)

/-- 'tronagelaw09.CheckLoose', WHERE WHAT IT READS IS OF BULK AT MOST 1048576: true; the input reads as it did. -/
def checkLooseUptoRow : OpenClaim := { program := "ytjbggogbnckllaadoor", sum := "9aac2b55729f98fd66ac2c0053ce264bb9958934031ea9af3db50938c6634db4", func := "tronage/tronagelaw09.CheckLoose", spec := "checkLoose", unfollowed := true, recurses := true, named := ["math/bits.deBruijn64tab"], apart := false, laid := [("math/bits.deBruijn64tab", laid_math_bits_deBruijn64tab)], narrowed := true }
def CheckLooseUptoSaid : Prop := checkLooseUptoRow.holds Tryd.pinned (OpenSpec.upto checkLooseSpec)

/-- 'tronagelaw09.CheckCloses', WHERE WHAT IT READS IS OF BULK AT MOST 1048576: true; the input reads as it did. -/
def checkClosesUptoRow : OpenClaim := { program := "ytjbggogbnckllaadoor", sum := "9aac2b55729f98fd66ac2c0053ce264bb9958934031ea9af3db50938c6634db4", func := "tronage/tronagelaw09.CheckCloses", spec := "checkCloses", unfollowed := true, recurses := true, named := ["math/bits.deBruijn64tab"], apart := false, laid := [("math/bits.deBruijn64tab", laid_math_bits_deBruijn64tab)], narrowed := true }
def CheckClosesUptoSaid : Prop := checkClosesUptoRow.holds Tryd.pinned (OpenSpec.upto checkClosesSpec)

/-- 'tronagelaw09.CheckGrows', WHERE WHAT IT READS IS OF BULK AT MOST 1048576: true; the input reads as it did. -/
def checkGrowsUptoRow : OpenClaim := { program := "ytjbggogbnckllaadoor", sum := "9aac2b55729f98fd66ac2c0053ce264bb9958934031ea9af3db50938c6634db4", func := "tronage/tronagelaw09.CheckGrows", spec := "checkGrows", unfollowed := true, recurses := true, named := ["math/bits.deBruijn64tab"], apart := false, laid := [("math/bits.deBruijn64tab", laid_math_bits_deBruijn64tab)], narrowed := true }
def CheckGrowsUptoSaid : Prop := checkGrowsUptoRow.holds Tryd.pinned (OpenSpec.upto checkGrowsSpec)

end Rows
end Go.Proofs.YtjbggogbnckllaaDoor
