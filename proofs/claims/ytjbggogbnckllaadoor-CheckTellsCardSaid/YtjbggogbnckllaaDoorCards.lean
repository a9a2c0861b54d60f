/-
  DERIVED. GIVEN WITH THE SEED: THE CARDS: each row of YtjbggogbnckllaaDoorRows.lean that lists a variable, with what it lists TIED to the program's text (the seventh form; the later family's looks); each row that meets fmt, with fmt's text TOLD by the authors' own Lean function (tested against real Go, not proved from fmt's source: count such statements apart). THE CARD IS WHAT COUNTS. Prove the row's statement (the work); the ties are given (YtjbggogbnckllaaDoorTie.lean); close each card by the builder's one call (the guide's Derived/Test/ToyasCard.lean, 'card_holds'). Laid BY PROGRAM, IN A SANDBOX (cutbox-door.mjs). By AI agents, Wed Nov 11 2026. No macro, syntax, notation, axiom, sorry.
-/
import Derived.Test.YtjbggogbnckllaaDoorRows
import GoSem.ClaimSeven
namespace Go.Proofs.YtjbggogbnckllaaDoor
namespace Rows

/-- THE TIED CARD OF 'tronagelaw10.FirstNothing'. -/
def firstNothingCard : Claim7 := { stood := { row := firstNothingRow, standIns := [], harness := (true, "a7b28be08a51f9fcd3ac371e69565526bca5fd5b21eb48cb63b2c2d99292c323"), looks := false }, kinds := [], alts := [], laidByText := true, laidKinds := [.data], laidTests := true, laidLooks := .later }
def FirstNothingCardSaid : Prop := Claim7.holds Tryd.pinned (.plain (OpenSpec.ofChange firstNothingSpec)) firstNothingCard

/-- THE TIED CARD OF 'tronagelaw10.FirstSentences'. -/
def firstSentencesCard : Claim7 := { stood := { row := firstSentencesRow, standIns := [], harness := (true, "a7b28be08a51f9fcd3ac371e69565526bca5fd5b21eb48cb63b2c2d99292c323"), looks := false }, kinds := [], alts := [], laidByText := true, laidKinds := [.data], laidTests := true, laidLooks := .later }
def FirstSentencesCardSaid : Prop := Claim7.holds Tryd.pinned (.plain (OpenSpec.ofChange firstSentencesSpec)) firstSentencesCard

/-- THE TIED CARD OF 'tronagelaw10.FirstGrows'. -/
def firstGrowsCard : Claim7 := { stood := { row := firstGrowsRow, standIns := [], harness := (true, "a7b28be08a51f9fcd3ac371e69565526bca5fd5b21eb48cb63b2c2d99292c323"), looks := false }, kinds := [], alts := [], laidByText := true, laidKinds := [.data], laidTests := true, laidLooks := .later }
def FirstGrowsCardSaid : Prop := Claim7.holds Tryd.pinned (.plain (OpenSpec.ofChange firstGrowsSpec)) firstGrowsCard

/-- THE TIED CARD OF 'tronagelaw10.FirstTells'. -/
def firstTellsCard : Claim7 := { stood := { row := firstTellsRow, standIns := [], harness := (true, "a7b28be08a51f9fcd3ac371e69565526bca5fd5b21eb48cb63b2c2d99292c323"), looks := false }, kinds := [], alts := [], laidByText := true, laidKinds := [.data], laidTests := true, laidLooks := .later }
def FirstTellsCardSaid : Prop := Claim7.holds Tryd.pinned (.plain (OpenSpec.ofChange firstTellsSpec)) firstTellsCard

/-- THE TIED CARD OF 'tronagelaw10.FirstCloses'. -/
def firstClosesCard : Claim7 := { stood := { row := firstClosesRow, standIns := [], harness := (true, "a7b28be08a51f9fcd3ac371e69565526bca5fd5b21eb48cb63b2c2d99292c323"), looks := false }, kinds := [], alts := [], laidByText := true, laidKinds := [.data], laidTests := true, laidLooks := .later }
def FirstClosesCardSaid : Prop := Claim7.holds Tryd.pinned (.plain (OpenSpec.ofChange firstClosesSpec)) firstClosesCard

/-- THE TIED CARD OF 'tronagelaw10.FirstJoins'. -/
def firstJoinsCard : Claim7 := { stood := { row := firstJoinsRow, standIns := [], harness := (true, "a7b28be08a51f9fcd3ac371e69565526bca5fd5b21eb48cb63b2c2d99292c323"), looks := false }, kinds := [], alts := [], laidByText := true, laidKinds := [.data], laidTests := true, laidLooks := .later }
def FirstJoinsCardSaid : Prop := Claim7.holds Tryd.pinned (.plain (OpenSpec.ofChange firstJoinsSpec)) firstJoinsCard

/-- THE TIED CARD OF 'tronagelaw09.CheckTells'. -/
def checkTellsCard : Claim7 := { stood := { row := checkTellsRow, standIns := [], harness := (true, "a7b28be08a51f9fcd3ac371e69565526bca5fd5b21eb48cb63b2c2d99292c323"), looks := false }, kinds := [], alts := [], laidByText := true, laidKinds := [.data], laidTests := true, laidLooks := .later }
def CheckTellsCardSaid : Prop := Claim7.holds Tryd.pinned (.plain (OpenSpec.ofChange checkTellsSpec)) checkTellsCard

/-- THE TIED CARD OF 'tronagelaw09.CheckShortest'. -/
def checkShortestCard : Claim7 := { stood := { row := checkShortestRow, standIns := [], harness := (true, "a7b28be08a51f9fcd3ac371e69565526bca5fd5b21eb48cb63b2c2d99292c323"), looks := false }, kinds := [], alts := [], laidByText := true, laidKinds := [.data], laidTests := true, laidLooks := .later }
def CheckShortestCardSaid : Prop := Claim7.holds Tryd.pinned (.plain (OpenSpec.ofChange checkShortestSpec)) checkShortestCard

/-- THE TIED CARD OF 'tronagelaw09.CheckLoose'. -/
def checkLooseCard : Claim7 := { stood := { row := checkLooseRow, standIns := [], harness := (true, "a7b28be08a51f9fcd3ac371e69565526bca5fd5b21eb48cb63b2c2d99292c323"), looks := false }, kinds := [], alts := [], laidByText := true, laidKinds := [.data], laidTests := true, laidLooks := .later }
def CheckLooseCardSaid : Prop := Claim7.holds Tryd.pinned (.plain (OpenSpec.ofChange checkLooseSpec)) checkLooseCard

/-- THE TIED CARD OF 'tronagelaw09.CheckCloses'. -/
def checkClosesCard : Claim7 := { stood := { row := checkClosesRow, standIns := [], harness := (true, "a7b28be08a51f9fcd3ac371e69565526bca5fd5b21eb48cb63b2c2d99292c323"), looks := false }, kinds := [], alts := [], laidByText := true, laidKinds := [.data], laidTests := true, laidLooks := .later }
def CheckClosesCardSaid : Prop := Claim7.holds Tryd.pinned (.plain (OpenSpec.ofChange checkClosesSpec)) checkClosesCard

/-- THE TIED CARD OF 'tronagelaw09.CheckGrows'. -/
def checkGrowsCard : Claim7 := { stood := { row := checkGrowsRow, standIns := [], harness := (true, "a7b28be08a51f9fcd3ac371e69565526bca5fd5b21eb48cb63b2c2d99292c323"), looks := false }, kinds := [], alts := [], laidByText := true, laidKinds := [.data], laidTests := true, laidLooks := .later }
def CheckGrowsCardSaid : Prop := Claim7.holds Tryd.pinned (.plain (OpenSpec.ofChange checkGrowsSpec)) checkGrowsCard

/-- THE SECOND FORM's CARD OF 'tronagelaw10.FirstNothing'. -/
def firstNothingUptoCard : Claim7 := { stood := { row := firstNothingUptoRow, standIns := [], harness := (true, "a7b28be08a51f9fcd3ac371e69565526bca5fd5b21eb48cb63b2c2d99292c323"), looks := false }, kinds := [], alts := [], laidByText := true, laidKinds := [.data], laidTests := true, laidLooks := .later }
def FirstNothingUptoCardSaid : Prop := Claim7.holds Tryd.pinned (.plain (OpenSpec.upto firstNothingSpec)) firstNothingUptoCard

/-- THE SECOND FORM's CARD OF 'tronagelaw10.FirstSentences'. -/
def firstSentencesUptoCard : Claim7 := { stood := { row := firstSentencesUptoRow, standIns := [], harness := (true, "a7b28be08a51f9fcd3ac371e69565526bca5fd5b21eb48cb63b2c2d99292c323"), looks := false }, kinds := [], alts := [], laidByText := true, laidKinds := [.data], laidTests := true, laidLooks := .later }
def FirstSentencesUptoCardSaid : Prop := Claim7.holds Tryd.pinned (.plain (OpenSpec.upto firstSentencesSpec)) firstSentencesUptoCard

/-- THE SECOND FORM's CARD OF 'tronagelaw10.FirstGrows'. -/
def firstGrowsUptoCard : Claim7 := { stood := { row := firstGrowsUptoRow, standIns := [], harness := (true, "a7b28be08a51f9fcd3ac371e69565526bca5fd5b21eb48cb63b2c2d99292c323"), looks := false }, kinds := [], alts := [], laidByText := true, laidKinds := [.data], laidTests := true, laidLooks := .later }
def FirstGrowsUptoCardSaid : Prop := Claim7.holds Tryd.pinned (.plain (OpenSpec.upto firstGrowsSpec)) firstGrowsUptoCard

/-- THE SECOND FORM's CARD OF 'tronagelaw10.FirstTells'. -/
def firstTellsUptoCard : Claim7 := { stood := { row := firstTellsUptoRow, standIns := [], harness := (true, "a7b28be08a51f9fcd3ac371e69565526bca5fd5b21eb48cb63b2c2d99292c323"), looks := false }, kinds := [], alts := [], laidByText := true, laidKinds := [.data], laidTests := true, laidLooks := .later }
def FirstTellsUptoCardSaid : Prop := Claim7.holds Tryd.pinned (.plain (OpenSpec.upto firstTellsSpec)) firstTellsUptoCard

/-- THE SECOND FORM's CARD OF 'tronagelaw10.FirstCloses'. -/
def firstClosesUptoCard : Claim7 := { stood := { row := firstClosesUptoRow, standIns := [], harness := (true, "a7b28be08a51f9fcd3ac371e69565526bca5fd5b21eb48cb63b2c2d99292c323"), looks := false }, kinds := [], alts := [], laidByText := true, laidKinds := [.data], laidTests := true, laidLooks := .later }
def FirstClosesUptoCardSaid : Prop := Claim7.holds Tryd.pinned (.plain (OpenSpec.upto firstClosesSpec)) firstClosesUptoCard

/-- THE SECOND FORM's CARD OF 'tronagelaw10.FirstJoins'. -/
def firstJoinsUptoCard : Claim7 := { stood := { row := firstJoinsUptoRow, standIns := [], harness := (true, "a7b28be08a51f9fcd3ac371e69565526bca5fd5b21eb48cb63b2c2d99292c323"), looks := false }, kinds := [], alts := [], laidByText := true, laidKinds := [.data], laidTests := true, laidLooks := .later }
def FirstJoinsUptoCardSaid : Prop := Claim7.holds Tryd.pinned (.plain (OpenSpec.upto firstJoinsSpec)) firstJoinsUptoCard

/-- THE SECOND FORM's CARD OF 'tronagelaw09.CheckTells'. -/
def checkTellsUptoCard : Claim7 := { stood := { row := checkTellsUptoRow, standIns := [], harness := (true, "a7b28be08a51f9fcd3ac371e69565526bca5fd5b21eb48cb63b2c2d99292c323"), looks := false }, kinds := [], alts := [], laidByText := true, laidKinds := [.data], laidTests := true, laidLooks := .later }
def CheckTellsUptoCardSaid : Prop := Claim7.holds Tryd.pinned (.plain (OpenSpec.upto checkTellsSpec)) checkTellsUptoCard

/-- THE SECOND FORM's CARD OF 'tronagelaw09.CheckShortest'. -/
def checkShortestUptoCard : Claim7 := { stood := { row := checkShortestUptoRow, standIns := [], harness := (true, "a7b28be08a51f9fcd3ac371e69565526bca5fd5b21eb48cb63b2c2d99292c323"), looks := false }, kinds := [], alts := [], laidByText := true, laidKinds := [.data], laidTests := true, laidLooks := .later }
def CheckShortestUptoCardSaid : Prop := Claim7.holds Tryd.pinned (.plain (OpenSpec.upto checkShortestSpec)) checkShortestUptoCard

/-- THE SECOND FORM's CARD OF 'tronagelaw09.CheckLoose'. -/
def checkLooseUptoCard : Claim7 := { stood := { row := checkLooseUptoRow, standIns := [], harness := (true, "a7b28be08a51f9fcd3ac371e69565526bca5fd5b21eb48cb63b2c2d99292c323"), looks := false }, kinds := [], alts := [], laidByText := true, laidKinds := [.data], laidTests := true, laidLooks := .later }
def CheckLooseUptoCardSaid : Prop := Claim7.holds Tryd.pinned (.plain (OpenSpec.upto checkLooseSpec)) checkLooseUptoCard

/-- THE SECOND FORM's CARD OF 'tronagelaw09.CheckCloses'. -/
def checkClosesUptoCard : Claim7 := { stood := { row := checkClosesUptoRow, standIns := [], harness := (true, "a7b28be08a51f9fcd3ac371e69565526bca5fd5b21eb48cb63b2c2d99292c323"), looks := false }, kinds := [], alts := [], laidByText := true, laidKinds := [.data], laidTests := true, laidLooks := .later }
def CheckClosesUptoCardSaid : Prop := Claim7.holds Tryd.pinned (.plain (OpenSpec.upto checkClosesSpec)) checkClosesUptoCard

/-- THE SECOND FORM's CARD OF 'tronagelaw09.CheckGrows'. -/
def checkGrowsUptoCard : Claim7 := { stood := { row := checkGrowsUptoRow, standIns := [], harness := (true, "a7b28be08a51f9fcd3ac371e69565526bca5fd5b21eb48cb63b2c2d99292c323"), looks := false }, kinds := [], alts := [], laidByText := true, laidKinds := [.data], laidTests := true, laidLooks := .later }
def CheckGrowsUptoCardSaid : Prop := Claim7.holds Tryd.pinned (.plain (OpenSpec.upto checkGrowsSpec)) checkGrowsUptoCard
end Rows
end Go.Proofs.YtjbggogbnckllaaDoor
