/-
  No cell of these rows narrows 'for every input' (looked for: loops, veiled, ifaces, maps, wideKeys, modest, calm, conditions, laid).
  DERIVED. THE GIVEN ROWS OF THIS SEAT. 11 by the template 'for every input the law returns true; each argument reads behind the call as it read before'; 0 by the template 'total and deterministic' (their statements: YtgoggooeipcgpaaTotals.lean).
  GIVEN WITH THE SEED: the statements are not yours to turn. If you find one false, say at which input.
  Laid BY PROGRAM, IN A SANDBOX (cutbox-rows.mjs): the forced cells as the released guide's own fill.sh prints them over the translation 0173497a304a2d0a… (all of the seat's roots in one cut). By AI agents, Wed Nov 11 2026. No macro, syntax, notation, axiom, sorry.
-/
import Derived.Test.YtgoggooeipcgpaaChecked
import GoSem.Claim
import GoSem.ClaimJoined
import GoSem.ClaimMapViews
import Derived.JoinedTies
import Derived.KernelRfl
namespace Go.Proofs.Ytgoggooeipcgpaa
/- THE CELL 'sum', in the pinned program and in every row, IS THE sha256 OF THE DUMP (.gsa) THAT YtgoggooeipcgpaaProg.lean LOADS. Nothing in Lean hashes anything: it is a label: what it is worth is what the hold of that sum in a sandbox is worth. -/
noncomputable def Try.pinned : Pinned := { name := "ytgoggooeipcgpaa", sum := "0173497a304a2d0a73f41bd4acb6afbbdb2f306fb2c9fe2603364f4754ef3438", checked := Try.checked }
namespace Rows
def none {H : Type} : Left H := { results := [], args := [] }

/-- 'tronagelaw16.PatternTells': WHATEVER THE INPUT: true; the input reads as it did. -/
def patternTellsSpec : ChangeSpec := { name := "patternTells", fn := fun _ => fun
  | [d1, d2, d3, d4] => { results := [.lit (.bool true)], args := [d1, d2, d3, d4] }
  | _ => none }
def patternTellsRow : OpenClaim := { program := "ytgoggooeipcgpaa", sum := "0173497a304a2d0a73f41bd4acb6afbbdb2f306fb2c9fe2603364f4754ef3438", func := "tronage/tronagelaw16.PatternTells", spec := "patternTells", apart := false }
def PatternTellsSaid : Prop := patternTellsRow.holds Try.pinned (OpenSpec.ofChange patternTellsSpec)

/-- ITS FALSE NEIGHBOUR: 'it returns false'. Refute it at one input. -/
def patternTellsWrong : ChangeSpec := { name := "patternTells", fn := fun _ => fun
  | [d1, d2, d3, d4] => { results := [.lit (.bool false)], args := [d1, d2, d3, d4] }
  | _ => none }
def PatternTellsWrongFalsely : Prop := patternTellsRow.holds Try.pinned (OpenSpec.ofChange patternTellsWrong)

/-- 'tronagelaw16.PatternLongest': WHATEVER THE INPUT: true; the input reads as it did. -/
def patternLongestSpec : ChangeSpec := { name := "patternLongest", fn := fun _ => fun
  | [d1, d2, d3] => { results := [.lit (.bool true)], args := [d1, d2, d3] }
  | _ => none }
def patternLongestRow : OpenClaim := { program := "ytgoggooeipcgpaa", sum := "0173497a304a2d0a73f41bd4acb6afbbdb2f306fb2c9fe2603364f4754ef3438", func := "tronage/tronagelaw16.PatternLongest", spec := "patternLongest", apart := false }
def PatternLongestSaid : Prop := patternLongestRow.holds Try.pinned (OpenSpec.ofChange patternLongestSpec)

/-- ITS FALSE NEIGHBOUR: 'it returns false'. Refute it at one input. -/
def patternLongestWrong : ChangeSpec := { name := "patternLongest", fn := fun _ => fun
  | [d1, d2, d3] => { results := [.lit (.bool false)], args := [d1, d2, d3] }
  | _ => none }
def PatternLongestWrongFalsely : Prop := patternLongestRow.holds Try.pinned (OpenSpec.ofChange patternLongestWrong)

/-- 'tronagelaw16.PatternExample': WHATEVER THE INPUT: true; the input reads as it did. -/
def patternExampleSpec : ChangeSpec := { name := "patternExample", fn := fun _ => fun
  | [d1, d2] => { results := [.lit (.bool true)], args := [d1, d2] }
  | _ => none }
def patternExampleRow : OpenClaim := { program := "ytgoggooeipcgpaa", sum := "0173497a304a2d0a73f41bd4acb6afbbdb2f306fb2c9fe2603364f4754ef3438", func := "tronage/tronagelaw16.PatternExample", spec := "patternExample", apart := false }
def PatternExampleSaid : Prop := patternExampleRow.holds Try.pinned (OpenSpec.ofChange patternExampleSpec)

/-- ITS FALSE NEIGHBOUR: 'it returns false'. Refute it at one input. -/
def patternExampleWrong : ChangeSpec := { name := "patternExample", fn := fun _ => fun
  | [d1, d2] => { results := [.lit (.bool false)], args := [d1, d2] }
  | _ => none }
def PatternExampleWrongFalsely : Prop := patternExampleRow.holds Try.pinned (OpenSpec.ofChange patternExampleWrong)

/-- 'tronagelaw16.PatternMeets': WHATEVER THE INPUT: true; the input reads as it did. -/
def patternMeetsSpec : ChangeSpec := { name := "patternMeets", fn := fun _ => fun
  | [d1, d2, d3] => { results := [.lit (.bool true)], args := [d1, d2, d3] }
  | _ => none }
def patternMeetsRow : OpenClaim := { program := "ytgoggooeipcgpaa", sum := "0173497a304a2d0a73f41bd4acb6afbbdb2f306fb2c9fe2603364f4754ef3438", func := "tronage/tronagelaw16.PatternMeets", spec := "patternMeets", apart := false }
def PatternMeetsSaid : Prop := patternMeetsRow.holds Try.pinned (OpenSpec.ofChange patternMeetsSpec)

/-- ITS FALSE NEIGHBOUR: 'it returns false'. Refute it at one input. -/
def patternMeetsWrong : ChangeSpec := { name := "patternMeets", fn := fun _ => fun
  | [d1, d2, d3] => { results := [.lit (.bool false)], args := [d1, d2, d3] }
  | _ => none }
def PatternMeetsWrongFalsely : Prop := patternMeetsRow.holds Try.pinned (OpenSpec.ofChange patternMeetsWrong)

/-- 'tronagelaw16.PatternJoins': WHATEVER THE INPUT: true; the input reads as it did. -/
def patternJoinsSpec : ChangeSpec := { name := "patternJoins", fn := fun _ => fun
  | [d1, d2, d3] => { results := [.lit (.bool true)], args := [d1, d2, d3] }
  | _ => none }
def patternJoinsRow : OpenClaim := { program := "ytgoggooeipcgpaa", sum := "0173497a304a2d0a73f41bd4acb6afbbdb2f306fb2c9fe2603364f4754ef3438", func := "tronage/tronagelaw16.PatternJoins", spec := "patternJoins", apart := false }
def PatternJoinsSaid : Prop := patternJoinsRow.holds Try.pinned (OpenSpec.ofChange patternJoinsSpec)

/-- ITS FALSE NEIGHBOUR: 'it returns false'. Refute it at one input. -/
def patternJoinsWrong : ChangeSpec := { name := "patternJoins", fn := fun _ => fun
  | [d1, d2, d3] => { results := [.lit (.bool false)], args := [d1, d2, d3] }
  | _ => none }
def PatternJoinsWrongFalsely : Prop := patternJoinsRow.holds Try.pinned (OpenSpec.ofChange patternJoinsWrong)

/-- 'tronagelaw16.PatternSets': WHATEVER THE INPUT: true; the input reads as it did. -/
def patternSetsSpec : ChangeSpec := { name := "patternSets", fn := fun _ => fun
  | [d1, d2, d3, d4] => { results := [.lit (.bool true)], args := [d1, d2, d3, d4] }
  | _ => none }
def patternSetsRow : OpenClaim := { program := "ytgoggooeipcgpaa", sum := "0173497a304a2d0a73f41bd4acb6afbbdb2f306fb2c9fe2603364f4754ef3438", func := "tronage/tronagelaw16.PatternSets", spec := "patternSets", apart := false }
def PatternSetsSaid : Prop := patternSetsRow.holds Try.pinned (OpenSpec.ofChange patternSetsSpec)

/-- ITS FALSE NEIGHBOUR: 'it returns false'. Refute it at one input. -/
def patternSetsWrong : ChangeSpec := { name := "patternSets", fn := fun _ => fun
  | [d1, d2, d3, d4] => { results := [.lit (.bool false)], args := [d1, d2, d3, d4] }
  | _ => none }
def PatternSetsWrongFalsely : Prop := patternSetsRow.holds Try.pinned (OpenSpec.ofChange patternSetsWrong)

/-- 'tronagelaw17.ScanCovers': WHATEVER THE INPUT: true; the input reads as it did. -/
def scanCoversSpec : ChangeSpec := { name := "scanCovers", fn := fun _ => fun
  | [d1, d2, d3] => { results := [.lit (.bool true)], args := [d1, d2, d3] }
  | _ => none }
def scanCoversRow : OpenClaim := { program := "ytgoggooeipcgpaa", sum := "0173497a304a2d0a73f41bd4acb6afbbdb2f306fb2c9fe2603364f4754ef3438", func := "tronage/tronagelaw17.ScanCovers", spec := "scanCovers", unfollowed := true, recurses := true, apart := false }
def ScanCoversSaid : Prop := scanCoversRow.holds Try.pinned (OpenSpec.ofChange scanCoversSpec)

/-- ITS FALSE NEIGHBOUR: 'it returns false'. Refute it at one input. -/
def scanCoversWrong : ChangeSpec := { name := "scanCovers", fn := fun _ => fun
  | [d1, d2, d3] => { results := [.lit (.bool false)], args := [d1, d2, d3] }
  | _ => none }
def ScanCoversWrongFalsely : Prop := scanCoversRow.holds Try.pinned (OpenSpec.ofChange scanCoversWrong)

/-- 'tronagelaw17.ScanLongest': WHATEVER THE INPUT: true; the input reads as it did. -/
def scanLongestSpec : ChangeSpec := { name := "scanLongest", fn := fun _ => fun
  | [d1, d2, d3] => { results := [.lit (.bool true)], args := [d1, d2, d3] }
  | _ => none }
def scanLongestRow : OpenClaim := { program := "ytgoggooeipcgpaa", sum := "0173497a304a2d0a73f41bd4acb6afbbdb2f306fb2c9fe2603364f4754ef3438", func := "tronage/tronagelaw17.ScanLongest", spec := "scanLongest", unfollowed := true, recurses := true, apart := false }
def ScanLongestSaid : Prop := scanLongestRow.holds Try.pinned (OpenSpec.ofChange scanLongestSpec)

/-- ITS FALSE NEIGHBOUR: 'it returns false'. Refute it at one input. -/
def scanLongestWrong : ChangeSpec := { name := "scanLongest", fn := fun _ => fun
  | [d1, d2, d3] => { results := [.lit (.bool false)], args := [d1, d2, d3] }
  | _ => none }
def ScanLongestWrongFalsely : Prop := scanLongestRow.holds Try.pinned (OpenSpec.ofChange scanLongestWrong)

/-- 'tronagelaw17.ScanGoesOn': WHATEVER THE INPUT: true; the input reads as it did. -/
def scanGoesOnSpec : ChangeSpec := { name := "scanGoesOn", fn := fun _ => fun
  | [d1, d2, d3, d4, d5] => { results := [.lit (.bool true)], args := [d1, d2, d3, d4, d5] }
  | _ => none }
def scanGoesOnRow : OpenClaim := { program := "ytgoggooeipcgpaa", sum := "0173497a304a2d0a73f41bd4acb6afbbdb2f306fb2c9fe2603364f4754ef3438", func := "tronage/tronagelaw17.ScanGoesOn", spec := "scanGoesOn", unfollowed := true, recurses := true, apart := false }
def ScanGoesOnSaid : Prop := scanGoesOnRow.holds Try.pinned (OpenSpec.ofChange scanGoesOnSpec)

/-- ITS FALSE NEIGHBOUR: 'it returns false'. Refute it at one input. -/
def scanGoesOnWrong : ChangeSpec := { name := "scanGoesOn", fn := fun _ => fun
  | [d1, d2, d3, d4, d5] => { results := [.lit (.bool false)], args := [d1, d2, d3, d4, d5] }
  | _ => none }
def ScanGoesOnWrongFalsely : Prop := scanGoesOnRow.holds Try.pinned (OpenSpec.ofChange scanGoesOnWrong)

/-- 'tronagelaw17.ScanScans': WHATEVER THE INPUT: true; the input reads as it did. -/
def scanScansSpec : ChangeSpec := { name := "scanScans", fn := fun _ => fun
  | [d1, d2, d3] => { results := [.lit (.bool true)], args := [d1, d2, d3] }
  | _ => none }
def scanScansRow : OpenClaim := { program := "ytgoggooeipcgpaa", sum := "0173497a304a2d0a73f41bd4acb6afbbdb2f306fb2c9fe2603364f4754ef3438", func := "tronage/tronagelaw17.ScanScans", spec := "scanScans", unfollowed := true, recurses := true, apart := false }
def ScanScansSaid : Prop := scanScansRow.holds Try.pinned (OpenSpec.ofChange scanScansSpec)

/-- ITS FALSE NEIGHBOUR: 'it returns false'. Refute it at one input. -/
def scanScansWrong : ChangeSpec := { name := "scanScans", fn := fun _ => fun
  | [d1, d2, d3] => { results := [.lit (.bool false)], args := [d1, d2, d3] }
  | _ => none }
def ScanScansWrongFalsely : Prop := scanScansRow.holds Try.pinned (OpenSpec.ofChange scanScansWrong)

/-- 'tronagelaw17.ScanTexts': WHATEVER THE INPUT: true; the input reads as it did. -/
def scanTextsSpec : ChangeSpec := { name := "scanTexts", fn := fun _ => fun
  | [d1, d2] => { results := [.lit (.bool true)], args := [d1, d2] }
  | _ => none }
def scanTextsRow : OpenClaim := { program := "ytgoggooeipcgpaa", sum := "0173497a304a2d0a73f41bd4acb6afbbdb2f306fb2c9fe2603364f4754ef3438", func := "tronage/tronagelaw17.ScanTexts", spec := "scanTexts", unfollowed := true, recurses := true, apart := false }
def ScanTextsSaid : Prop := scanTextsRow.holds Try.pinned (OpenSpec.ofChange scanTextsSpec)

/-- ITS FALSE NEIGHBOUR: 'it returns false'. Refute it at one input. -/
def scanTextsWrong : ChangeSpec := { name := "scanTexts", fn := fun _ => fun
  | [d1, d2] => { results := [.lit (.bool false)], args := [d1, d2] }
  | _ => none }
def ScanTextsWrongFalsely : Prop := scanTextsRow.holds Try.pinned (OpenSpec.ofChange scanTextsWrong)

/- THE SECOND FORM. 'bulk': how many values and letters a reading holds, each counted each time it is reached (what is shared counts as often as it is met; a slice's spare places count too). A statement '..UptoSaid' is the law's where the arguments, and the package variables that the reading takes, are together of bulk at most 1048576: NARROWER than '..Said'. Prove '..Said' where nothing that the law and all that it calls make is longer than what came in: it says more and counts as full. Else prove '..UptoSaid'. A law counts once. -/
mutual
def uptoBulk {H : Type} : DataW H → Nat
  | .lit (.string bytes) => bytes.length + 1
  | .lit _ => 1
  | .nil => 1
  | .ptr d => uptoBulk d + 1
  | .slice elems spare => uptoBulkAll elems + uptoBulkAll spare + 1
  | .agg parts => uptoBulkAll parts + 1
  | .iface _ d => uptoBulk d + 1
  | .map entries => uptoBulkEntries entries + 1
  | .held _ => 1
def uptoBulkAll {H : Type} : List (DataW H) → Nat
  | [] => 0
  | d :: r => uptoBulk d + uptoBulkAll r
def uptoBulkEntries {H : Type} : List (Lit × DataW H) → Nat
  | [] => 0
  | x :: r => uptoBulkEntry x + uptoBulkEntries r
def uptoBulkEntry {H : Type} : Lit × DataW H → Nat
  | (.string bytes, d) => bytes.length + uptoBulk d + 1
  | (_, d) => uptoBulk d + 1
 end
def uptoSmall : (H : Type) → List (DataW H) → Bool := fun _ ds => decide (uptoBulkAll ds ≤ 1048576)
def OpenSpec.upto (s : _root_.Go.ChangeSpec) : _root_.Go.OpenSpec := { _root_.Go.OpenSpec.ofChange s with cond := some uptoSmall }

/-- 'tronagelaw16.PatternTells', WHERE WHAT IT READS IS OF BULK AT MOST 1048576: true; the input reads as it did. -/
def patternTellsUptoRow : OpenClaim := { program := "ytgoggooeipcgpaa", sum := "0173497a304a2d0a73f41bd4acb6afbbdb2f306fb2c9fe2603364f4754ef3438", func := "tronage/tronagelaw16.PatternTells", spec := "patternTells", apart := false, narrowed := true }
def PatternTellsUptoSaid : Prop := patternTellsUptoRow.holds Try.pinned (OpenSpec.upto patternTellsSpec)

/-- 'tronagelaw16.PatternLongest', WHERE WHAT IT READS IS OF BULK AT MOST 1048576: true; the input reads as it did. -/
def patternLongestUptoRow : OpenClaim := { program := "ytgoggooeipcgpaa", sum := "0173497a304a2d0a73f41bd4acb6afbbdb2f306fb2c9fe2603364f4754ef3438", func := "tronage/tronagelaw16.PatternLongest", spec := "patternLongest", apart := false, narrowed := true }
def PatternLongestUptoSaid : Prop := patternLongestUptoRow.holds Try.pinned (OpenSpec.upto patternLongestSpec)

/-- 'tronagelaw16.PatternExample', WHERE WHAT IT READS IS OF BULK AT MOST 1048576: true; the input reads as it did. -/
def patternExampleUptoRow : OpenClaim := { program := "ytgoggooeipcgpaa", sum := "0173497a304a2d0a73f41bd4acb6afbbdb2f306fb2c9fe2603364f4754ef3438", func := "tronage/tronagelaw16.PatternExample", spec := "patternExample", apart := false, narrowed := true }
def PatternExampleUptoSaid : Prop := patternExampleUptoRow.holds Try.pinned (OpenSpec.upto patternExampleSpec)

/-- 'tronagelaw16.PatternMeets', WHERE WHAT IT READS IS OF BULK AT MOST 1048576: true; the input reads as it did. -/
def patternMeetsUptoRow : OpenClaim := { program := "ytgoggooeipcgpaa", sum := "0173497a304a2d0a73f41bd4acb6afbbdb2f306fb2c9fe2603364f4754ef3438", func := "tronage/tronagelaw16.PatternMeets", spec := "patternMeets", apart := false, narrowed := true }
def PatternMeetsUptoSaid : Prop := patternMeetsUptoRow.holds Try.pinned (OpenSpec.upto patternMeetsSpec)

/-- 'tronagelaw16.PatternJoins', WHERE WHAT IT READS IS OF BULK AT MOST 1048576: true; the input reads as it did. -/
def patternJoinsUptoRow : OpenClaim := { program := "ytgoggooeipcgpaa", sum := "0173497a304a2d0a73f41bd4acb6afbbdb2f306fb2c9fe2603364f4754ef3438", func := "tronage/tronagelaw16.PatternJoins", spec := "patternJoins", apart := false, narrowed := true }
def PatternJoinsUptoSaid : Prop := patternJoinsUptoRow.holds Try.pinned (OpenSpec.upto patternJoinsSpec)

/-- 'tronagelaw16.PatternSets', WHERE WHAT IT READS IS OF BULK AT MOST 1048576: true; the input reads as it did. -/
def patternSetsUptoRow : OpenClaim := { program := "ytgoggooeipcgpaa", sum := "0173497a304a2d0a73f41bd4acb6afbbdb2f306fb2c9fe2603364f4754ef3438", func := "tronage/tronagelaw16.PatternSets", spec := "patternSets", apart := false, narrowed := true }
def PatternSetsUptoSaid : Prop := patternSetsUptoRow.holds Try.pinned (OpenSpec.upto patternSetsSpec)

/-- 'tronagelaw17.ScanCovers', WHERE WHAT IT READS IS OF BULK AT MOST 1048576: true; the input reads as it did. -/
def scanCoversUptoRow : OpenClaim := { program := "ytgoggooeipcgpaa", sum := "0173497a304a2d0a73f41bd4acb6afbbdb2f306fb2c9fe2603364f4754ef3438", func := "tronage/tronagelaw17.ScanCovers", spec := "scanCovers", unfollowed := true, recurses := true, apart := false, narrowed := true }
def ScanCoversUptoSaid : Prop := scanCoversUptoRow.holds Try.pinned (OpenSpec.upto scanCoversSpec)

/-- 'tronagelaw17.ScanLongest', WHERE WHAT IT READS IS OF BULK AT MOST 1048576: true; the input reads as it did. -/
def scanLongestUptoRow : OpenClaim := { program := "ytgoggooeipcgpaa", sum := "0173497a304a2d0a73f41bd4acb6afbbdb2f306fb2c9fe2603364f4754ef3438", func := "tronage/tronagelaw17.ScanLongest", spec := "scanLongest", unfollowed := true, recurses := true, apart := false, narrowed := true }
def ScanLongestUptoSaid : Prop := scanLongestUptoRow.holds Try.pinned (OpenSpec.upto scanLongestSpec)

/-- 'tronagelaw17.ScanGoesOn', WHERE WHAT IT READS IS OF BULK AT MOST 1048576: true; the input reads as it did. -/
def scanGoesOnUptoRow : OpenClaim := { program := "ytgoggooeipcgpaa", sum := "0173497a304a2d0a73f41bd4acb6afbbdb2f306fb2c9fe2603364f4754ef3438", func := "tronage/tronagelaw17.ScanGoesOn", spec := "scanGoesOn", unfollowed := true, recurses := true, apart := false, narrowed := true }
def ScanGoesOnUptoSaid : Prop := scanGoesOnUptoRow.holds Try.pinned (OpenSpec.upto scanGoesOnSpec)

/-- 'tronagelaw17.ScanScans', WHERE WHAT IT READS IS OF BULK AT MOST 1048576: true; the input reads as it did. -/
def scanScansUptoRow : OpenClaim := { program := "ytgoggooeipcgpaa", sum := "0173497a304a2d0a73f41bd4acb6afbbdb2f306fb2c9fe2603364f4754ef3438", func := "tronage/tronagelaw17.ScanScans", spec := "scanScans", unfollowed := true, recurses := true, apart := false, narrowed := true }
def ScanScansUptoSaid : Prop := scanScansUptoRow.holds Try.pinned (OpenSpec.upto scanScansSpec)

/-- 'tronagelaw17.ScanTexts', WHERE WHAT IT READS IS OF BULK AT MOST 1048576: true; the input reads as it did. -/
def scanTextsUptoRow : OpenClaim := { program := "ytgoggooeipcgpaa", sum := "0173497a304a2d0a73f41bd4acb6afbbdb2f306fb2c9fe2603364f4754ef3438", func := "tronage/tronagelaw17.ScanTexts", spec := "scanTexts", unfollowed := true, recurses := true, apart := false, narrowed := true }
def ScanTextsUptoSaid : Prop := scanTextsUptoRow.holds Try.pinned (OpenSpec.upto scanTextsSpec)

end Rows
end Go.Proofs.Ytgoggooeipcgpaa
