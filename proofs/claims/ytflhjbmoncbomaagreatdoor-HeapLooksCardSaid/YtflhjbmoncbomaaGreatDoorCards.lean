/-
  DERIVED. GIVEN WITH THE SEED: THE CARDS: each row of YtflhjbmoncbomaaGreatDoorRows.lean that lists a variable, with what it lists TIED to the program's text (the seventh form; the later family's looks); each row that meets fmt, with fmt's text TOLD by the authors' own Lean function (tested against real Go, not proved from fmt's source: count such statements apart). THE CARD IS WHAT COUNTS. Prove the row's statement (the work); the ties are given (YtflhjbmoncbomaaGreatDoorTie.lean); close each card by the builder's one call (the guide's Derived/Test/ToyasCard.lean, 'card_holds'). Laid BY PROGRAM, IN A SANDBOX (cutbox-door.mjs). By AI agents, Wed Nov 11 2026. No macro, syntax, notation, axiom, sorry.
-/
import Derived.Test.YtflhjbmoncbomaaGreatDoorRows
import GoSem.ClaimSeven
namespace Go.Proofs.YtflhjbmoncbomaaGreatDoor
namespace Rows

/-- THE TIED CARD OF 'dustpanlaw11.HeapLooks'. -/
def heapLooksCard : Claim7 := { stood := { row := heapLooksRow, standIns := [], harness := (true, "8da591e8b1b3a53eb1faf06db943eecd4b179f8e0d5520bd7568a2d23eb6b57d"), looks := false }, kinds := [], alts := [], laidByText := true, laidKinds := [.data, .data], laidTests := true, laidLooks := .later }
def HeapLooksCardSaid : Prop := Claim7.holds Tryz.pinned (.plain (OpenSpec.ofChange heapLooksSpec)) heapLooksCard

/-- THE TIED CARD OF 'dustpanlaw15.SweepNone'. -/
def sweepNoneCard : Claim7 := { stood := { row := sweepNoneRow, standIns := [], harness := (true, "8da591e8b1b3a53eb1faf06db943eecd4b179f8e0d5520bd7568a2d23eb6b57d"), looks := false }, kinds := [], alts := [], laidByText := true, laidKinds := [.data, .data], laidTests := true, laidLooks := .later }
def SweepNoneCardSaid : Prop := Claim7.holds Tryz.pinned (.plain (OpenSpec.ofChange sweepNoneSpec)) sweepNoneCard

/-- THE TIED CARD OF 'dustpanlaw11.HeapParts'. -/
def heapPartsCard : Claim7 := { stood := { row := heapPartsRow, standIns := [], harness := (true, "8da591e8b1b3a53eb1faf06db943eecd4b179f8e0d5520bd7568a2d23eb6b57d"), looks := false }, kinds := [], alts := [], laidByText := true, laidKinds := [.data, .data, .data], laidTests := true, laidLooks := .later }
def HeapPartsCardSaid : Prop := Claim7.holds Tryz.pinned (.plain (OpenSpec.ofChange heapPartsSpec)) heapPartsCard

/-- THE TIED CARD OF 'dustpanlaw11.HeapPlays'. -/
def heapPlaysCard : Claim7 := { stood := { row := heapPlaysRow, standIns := [], harness := (true, "8da591e8b1b3a53eb1faf06db943eecd4b179f8e0d5520bd7568a2d23eb6b57d"), looks := false }, kinds := [], alts := [], laidByText := true, laidKinds := [.data, .data, .data], laidTests := true, laidLooks := .later }
def HeapPlaysCardSaid : Prop := Claim7.holds Tryz.pinned (.plain (OpenSpec.ofChange heapPlaysSpec)) heapPlaysCard

/-- THE TIED CARD OF 'dustpanlaw11.HeapNone'. -/
def heapNoneCard : Claim7 := { stood := { row := heapNoneRow, standIns := [], harness := (true, "8da591e8b1b3a53eb1faf06db943eecd4b179f8e0d5520bd7568a2d23eb6b57d"), looks := false }, kinds := [], alts := [], laidByText := true, laidKinds := [.data, .data, .data], laidTests := true, laidLooks := .later }
def HeapNoneCardSaid : Prop := Claim7.holds Tryz.pinned (.plain (OpenSpec.ofChange heapNoneSpec)) heapNoneCard

/-- THE TIED CARD OF 'dustpanlaw15.SweepTwice'. -/
def sweepTwiceCard : Claim7 := { stood := { row := sweepTwiceRow, standIns := [], harness := (true, "8da591e8b1b3a53eb1faf06db943eecd4b179f8e0d5520bd7568a2d23eb6b57d"), looks := false }, kinds := [], alts := [], laidByText := true, laidKinds := [.data, .data, .data], laidTests := true, laidLooks := .later }
def SweepTwiceCardSaid : Prop := Claim7.holds Tryz.pinned (.plain (OpenSpec.ofChange sweepTwiceSpec)) sweepTwiceCard

/-- THE TIED CARD OF 'dustpanlaw15.SweepSteps'. -/
def sweepStepsCard : Claim7 := { stood := { row := sweepStepsRow, standIns := [], harness := (true, "8da591e8b1b3a53eb1faf06db943eecd4b179f8e0d5520bd7568a2d23eb6b57d"), looks := false }, kinds := [], alts := [], laidByText := true, laidKinds := [.data, .data, .data], laidTests := true, laidLooks := .later }
def SweepStepsCardSaid : Prop := Claim7.holds Tryz.pinned (.plain (OpenSpec.ofChange sweepStepsSpec)) sweepStepsCard

/-- THE TIED CARD OF 'dustpanlaw15.SweepBlocks'. -/
def sweepBlocksCard : Claim7 := { stood := { row := sweepBlocksRow, standIns := [], harness := (true, "8da591e8b1b3a53eb1faf06db943eecd4b179f8e0d5520bd7568a2d23eb6b57d"), looks := false }, kinds := [], alts := [], laidByText := true, laidKinds := [.data, .data, .data], laidTests := true, laidLooks := .later }
def SweepBlocksCardSaid : Prop := Claim7.holds Tryz.pinned (.plain (OpenSpec.ofChange sweepBlocksSpec)) sweepBlocksCard

/-- THE TIED CARD OF 'dustpanlaw15.SweepAll'. -/
def sweepAllCard : Claim7 := { stood := { row := sweepAllRow, standIns := [], harness := (true, "8da591e8b1b3a53eb1faf06db943eecd4b179f8e0d5520bd7568a2d23eb6b57d"), looks := false }, kinds := [], alts := [], laidByText := true, laidKinds := [.data, .data, .data], laidTests := true, laidLooks := .later }
def SweepAllCardSaid : Prop := Claim7.holds Tryz.pinned (.plain (OpenSpec.ofChange sweepAllSpec)) sweepAllCard

/-- THE SECOND FORM's CARD OF 'dustpanlaw11.HeapLooks'. -/
def heapLooksUptoCard : Claim7 := { stood := { row := heapLooksUptoRow, standIns := [], harness := (true, "8da591e8b1b3a53eb1faf06db943eecd4b179f8e0d5520bd7568a2d23eb6b57d"), looks := false }, kinds := [], alts := [], laidByText := true, laidKinds := [.data, .data], laidTests := true, laidLooks := .later }
def HeapLooksUptoCardSaid : Prop := Claim7.holds Tryz.pinned (.plain (OpenSpec.upto heapLooksSpec)) heapLooksUptoCard

/-- THE SECOND FORM's CARD OF 'dustpanlaw15.SweepNone'. -/
def sweepNoneUptoCard : Claim7 := { stood := { row := sweepNoneUptoRow, standIns := [], harness := (true, "8da591e8b1b3a53eb1faf06db943eecd4b179f8e0d5520bd7568a2d23eb6b57d"), looks := false }, kinds := [], alts := [], laidByText := true, laidKinds := [.data, .data], laidTests := true, laidLooks := .later }
def SweepNoneUptoCardSaid : Prop := Claim7.holds Tryz.pinned (.plain (OpenSpec.upto sweepNoneSpec)) sweepNoneUptoCard

/-- THE SECOND FORM's CARD OF 'dustpanlaw11.HeapParts'. -/
def heapPartsUptoCard : Claim7 := { stood := { row := heapPartsUptoRow, standIns := [], harness := (true, "8da591e8b1b3a53eb1faf06db943eecd4b179f8e0d5520bd7568a2d23eb6b57d"), looks := false }, kinds := [], alts := [], laidByText := true, laidKinds := [.data, .data, .data], laidTests := true, laidLooks := .later }
def HeapPartsUptoCardSaid : Prop := Claim7.holds Tryz.pinned (.plain (OpenSpec.upto heapPartsSpec)) heapPartsUptoCard

/-- THE SECOND FORM's CARD OF 'dustpanlaw11.HeapPlays'. -/
def heapPlaysUptoCard : Claim7 := { stood := { row := heapPlaysUptoRow, standIns := [], harness := (true, "8da591e8b1b3a53eb1faf06db943eecd4b179f8e0d5520bd7568a2d23eb6b57d"), looks := false }, kinds := [], alts := [], laidByText := true, laidKinds := [.data, .data, .data], laidTests := true, laidLooks := .later }
def HeapPlaysUptoCardSaid : Prop := Claim7.holds Tryz.pinned (.plain (OpenSpec.upto heapPlaysSpec)) heapPlaysUptoCard

/-- THE SECOND FORM's CARD OF 'dustpanlaw11.HeapNone'. -/
def heapNoneUptoCard : Claim7 := { stood := { row := heapNoneUptoRow, standIns := [], harness := (true, "8da591e8b1b3a53eb1faf06db943eecd4b179f8e0d5520bd7568a2d23eb6b57d"), looks := false }, kinds := [], alts := [], laidByText := true, laidKinds := [.data, .data, .data], laidTests := true, laidLooks := .later }
def HeapNoneUptoCardSaid : Prop := Claim7.holds Tryz.pinned (.plain (OpenSpec.upto heapNoneSpec)) heapNoneUptoCard

/-- THE SECOND FORM's CARD OF 'dustpanlaw15.SweepTwice'. -/
def sweepTwiceUptoCard : Claim7 := { stood := { row := sweepTwiceUptoRow, standIns := [], harness := (true, "8da591e8b1b3a53eb1faf06db943eecd4b179f8e0d5520bd7568a2d23eb6b57d"), looks := false }, kinds := [], alts := [], laidByText := true, laidKinds := [.data, .data, .data], laidTests := true, laidLooks := .later }
def SweepTwiceUptoCardSaid : Prop := Claim7.holds Tryz.pinned (.plain (OpenSpec.upto sweepTwiceSpec)) sweepTwiceUptoCard

/-- THE SECOND FORM's CARD OF 'dustpanlaw15.SweepSteps'. -/
def sweepStepsUptoCard : Claim7 := { stood := { row := sweepStepsUptoRow, standIns := [], harness := (true, "8da591e8b1b3a53eb1faf06db943eecd4b179f8e0d5520bd7568a2d23eb6b57d"), looks := false }, kinds := [], alts := [], laidByText := true, laidKinds := [.data, .data, .data], laidTests := true, laidLooks := .later }
def SweepStepsUptoCardSaid : Prop := Claim7.holds Tryz.pinned (.plain (OpenSpec.upto sweepStepsSpec)) sweepStepsUptoCard

/-- THE SECOND FORM's CARD OF 'dustpanlaw15.SweepBlocks'. -/
def sweepBlocksUptoCard : Claim7 := { stood := { row := sweepBlocksUptoRow, standIns := [], harness := (true, "8da591e8b1b3a53eb1faf06db943eecd4b179f8e0d5520bd7568a2d23eb6b57d"), looks := false }, kinds := [], alts := [], laidByText := true, laidKinds := [.data, .data, .data], laidTests := true, laidLooks := .later }
def SweepBlocksUptoCardSaid : Prop := Claim7.holds Tryz.pinned (.plain (OpenSpec.upto sweepBlocksSpec)) sweepBlocksUptoCard

/-- THE SECOND FORM's CARD OF 'dustpanlaw15.SweepAll'. -/
def sweepAllUptoCard : Claim7 := { stood := { row := sweepAllUptoRow, standIns := [], harness := (true, "8da591e8b1b3a53eb1faf06db943eecd4b179f8e0d5520bd7568a2d23eb6b57d"), looks := false }, kinds := [], alts := [], laidByText := true, laidKinds := [.data, .data, .data], laidTests := true, laidLooks := .later }
def SweepAllUptoCardSaid : Prop := Claim7.holds Tryz.pinned (.plain (OpenSpec.upto sweepAllSpec)) sweepAllUptoCard
end Rows
end Go.Proofs.YtflhjbmoncbomaaGreatDoor
