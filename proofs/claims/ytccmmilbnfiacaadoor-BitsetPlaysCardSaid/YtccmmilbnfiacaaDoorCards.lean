/-
  DERIVED. GIVEN WITH THE SEED: THE CARDS: each row of YtccmmilbnfiacaaDoorRows.lean that lists a variable, with what it lists TIED to the program's text (the seventh form; the later family's looks); each row that meets fmt, with fmt's text TOLD by the authors' own Lean function (tested against real Go, not proved from fmt's source: count such statements apart). THE CARD IS WHAT COUNTS. Prove the row's statement (the work); the ties are given (YtccmmilbnfiacaaDoorTie.lean); close each card by the builder's one call (the guide's Derived/Test/ToyasCard.lean, 'card_holds'). Laid BY PROGRAM, IN A SANDBOX (cutbox-door.mjs). By AI agents, Wed Nov 11 2026. No macro, syntax, notation, axiom, sorry.
-/
import Derived.Test.YtccmmilbnfiacaaDoorRows
import GoSem.ClaimSeven
namespace Go.Proofs.YtccmmilbnfiacaaDoor
namespace Rows

/-- THE TIED CARD OF 'tronagelaw03.BitsetEach'. -/
def bitsetEachCard : Claim7 := { stood := { row := bitsetEachRow, standIns := [], harness := (true, "74fa742cb29b2a3ac2fc30cd55d86ff1004dba76f8742c91438f3acc99bc8acc"), looks := false }, kinds := [], alts := [], laidByText := true, laidKinds := [.data], laidTests := true, laidLooks := .later }
def BitsetEachCardSaid : Prop := Claim7.holds Tryd.pinned (.plain (OpenSpec.ofChange bitsetEachSpec)) bitsetEachCard

/-- THE TIED CARD OF 'tronagelaw03.BitsetCopies'. -/
def bitsetCopiesCard : Claim7 := { stood := { row := bitsetCopiesRow, standIns := [], harness := (true, "74fa742cb29b2a3ac2fc30cd55d86ff1004dba76f8742c91438f3acc99bc8acc"), looks := false }, kinds := [], alts := [], laidByText := true, laidKinds := [.data], laidTests := true, laidLooks := .later }
def BitsetCopiesCardSaid : Prop := Claim7.holds Tryd.pinned (.plain (OpenSpec.ofChange bitsetCopiesSpec)) bitsetCopiesCard

/-- THE TIED CARD OF 'tronagelaw03.BitsetMeets'. -/
def bitsetMeetsCard : Claim7 := { stood := { row := bitsetMeetsRow, standIns := [], harness := (true, "74fa742cb29b2a3ac2fc30cd55d86ff1004dba76f8742c91438f3acc99bc8acc"), looks := false }, kinds := [], alts := [], laidByText := true, laidKinds := [.data], laidTests := true, laidLooks := .later }
def BitsetMeetsCardSaid : Prop := Claim7.holds Tryd.pinned (.plain (OpenSpec.ofChange bitsetMeetsSpec)) bitsetMeetsCard

/-- THE TIED CARD OF 'tronagelaw03.BitsetUnion'. -/
def bitsetUnionCard : Claim7 := { stood := { row := bitsetUnionRow, standIns := [], harness := (true, "74fa742cb29b2a3ac2fc30cd55d86ff1004dba76f8742c91438f3acc99bc8acc"), looks := false }, kinds := [], alts := [], laidByText := true, laidKinds := [.data], laidTests := true, laidLooks := .later }
def BitsetUnionCardSaid : Prop := Claim7.holds Tryd.pinned (.plain (OpenSpec.ofChange bitsetUnionSpec)) bitsetUnionCard

/-- THE TIED CARD OF 'tronagelaw03.BitsetOrder'. -/
def bitsetOrderCard : Claim7 := { stood := { row := bitsetOrderRow, standIns := [], harness := (true, "74fa742cb29b2a3ac2fc30cd55d86ff1004dba76f8742c91438f3acc99bc8acc"), looks := false }, kinds := [], alts := [], laidByText := true, laidKinds := [.data], laidTests := true, laidLooks := .later }
def BitsetOrderCardSaid : Prop := Claim7.holds Tryd.pinned (.plain (OpenSpec.ofChange bitsetOrderSpec)) bitsetOrderCard

/-- THE TIED CARD OF 'tronagelaw03.BitsetPlays'. -/
def bitsetPlaysCard : Claim7 := { stood := { row := bitsetPlaysRow, standIns := [], harness := (true, "74fa742cb29b2a3ac2fc30cd55d86ff1004dba76f8742c91438f3acc99bc8acc"), looks := false }, kinds := [], alts := [], laidByText := true, laidKinds := [.data], laidTests := true, laidLooks := .later }
def BitsetPlaysCardSaid : Prop := Claim7.holds Tryd.pinned (.plain (OpenSpec.ofChange bitsetPlaysSpec)) bitsetPlaysCard

/-- THE SECOND FORM's CARD OF 'tronagelaw03.BitsetEach'. -/
def bitsetEachUptoCard : Claim7 := { stood := { row := bitsetEachUptoRow, standIns := [], harness := (true, "74fa742cb29b2a3ac2fc30cd55d86ff1004dba76f8742c91438f3acc99bc8acc"), looks := false }, kinds := [], alts := [], laidByText := true, laidKinds := [.data], laidTests := true, laidLooks := .later }
def BitsetEachUptoCardSaid : Prop := Claim7.holds Tryd.pinned (.plain (OpenSpec.upto bitsetEachSpec)) bitsetEachUptoCard

/-- THE SECOND FORM's CARD OF 'tronagelaw03.BitsetCopies'. -/
def bitsetCopiesUptoCard : Claim7 := { stood := { row := bitsetCopiesUptoRow, standIns := [], harness := (true, "74fa742cb29b2a3ac2fc30cd55d86ff1004dba76f8742c91438f3acc99bc8acc"), looks := false }, kinds := [], alts := [], laidByText := true, laidKinds := [.data], laidTests := true, laidLooks := .later }
def BitsetCopiesUptoCardSaid : Prop := Claim7.holds Tryd.pinned (.plain (OpenSpec.upto bitsetCopiesSpec)) bitsetCopiesUptoCard

/-- THE SECOND FORM's CARD OF 'tronagelaw03.BitsetMeets'. -/
def bitsetMeetsUptoCard : Claim7 := { stood := { row := bitsetMeetsUptoRow, standIns := [], harness := (true, "74fa742cb29b2a3ac2fc30cd55d86ff1004dba76f8742c91438f3acc99bc8acc"), looks := false }, kinds := [], alts := [], laidByText := true, laidKinds := [.data], laidTests := true, laidLooks := .later }
def BitsetMeetsUptoCardSaid : Prop := Claim7.holds Tryd.pinned (.plain (OpenSpec.upto bitsetMeetsSpec)) bitsetMeetsUptoCard

/-- THE SECOND FORM's CARD OF 'tronagelaw03.BitsetUnion'. -/
def bitsetUnionUptoCard : Claim7 := { stood := { row := bitsetUnionUptoRow, standIns := [], harness := (true, "74fa742cb29b2a3ac2fc30cd55d86ff1004dba76f8742c91438f3acc99bc8acc"), looks := false }, kinds := [], alts := [], laidByText := true, laidKinds := [.data], laidTests := true, laidLooks := .later }
def BitsetUnionUptoCardSaid : Prop := Claim7.holds Tryd.pinned (.plain (OpenSpec.upto bitsetUnionSpec)) bitsetUnionUptoCard

/-- THE SECOND FORM's CARD OF 'tronagelaw03.BitsetOrder'. -/
def bitsetOrderUptoCard : Claim7 := { stood := { row := bitsetOrderUptoRow, standIns := [], harness := (true, "74fa742cb29b2a3ac2fc30cd55d86ff1004dba76f8742c91438f3acc99bc8acc"), looks := false }, kinds := [], alts := [], laidByText := true, laidKinds := [.data], laidTests := true, laidLooks := .later }
def BitsetOrderUptoCardSaid : Prop := Claim7.holds Tryd.pinned (.plain (OpenSpec.upto bitsetOrderSpec)) bitsetOrderUptoCard

/-- THE SECOND FORM's CARD OF 'tronagelaw03.BitsetPlays'. -/
def bitsetPlaysUptoCard : Claim7 := { stood := { row := bitsetPlaysUptoRow, standIns := [], harness := (true, "74fa742cb29b2a3ac2fc30cd55d86ff1004dba76f8742c91438f3acc99bc8acc"), looks := false }, kinds := [], alts := [], laidByText := true, laidKinds := [.data], laidTests := true, laidLooks := .later }
def BitsetPlaysUptoCardSaid : Prop := Claim7.holds Tryd.pinned (.plain (OpenSpec.upto bitsetPlaysSpec)) bitsetPlaysUptoCard
end Rows
end Go.Proofs.YtccmmilbnfiacaaDoor
