/-
  DERIVED. GIVEN WITH THE SEED: THE CARDS: each row of YtjbmpdibjfcafaaDoorRows.lean that lists a variable, with what it lists TIED to the program's text (the seventh form; the later family's looks); each row that meets fmt, with fmt's text TOLD by the authors' own Lean function (tested against real Go, not proved from fmt's source: count such statements apart). THE CARD IS WHAT COUNTS. Prove the row's statement (the work); the ties are given (YtjbmpdibjfcafaaDoorTie.lean); close each card by the builder's one call (the guide's Derived/Test/ToyasCard.lean, 'card_holds'). Laid BY PROGRAM, IN A SANDBOX (cutbox-door.mjs). By AI agents, Wed Nov 11 2026. No macro, syntax, notation, axiom, sorry.
-/
import Derived.Test.YtjbmpdibjfcafaaDoorRows
import GoSem.ClaimSeven
namespace Go.Proofs.YtjbmpdibjfcafaaDoor
namespace Rows

/-- THE TIED CARD OF 'dustpanlaw01.BitsSames'. -/
def bitsSamesCard : Claim7 := { stood := { row := bitsSamesRow, standIns := [], harness := (true, "95b8127fbd5c63cf697328b66cd8742780a3ab0297e80a195f5cd5a13dd85348"), looks := false }, kinds := [], alts := [], laidByText := true, laidKinds := [.data], laidTests := true, laidLooks := .later }
def BitsSamesCardSaid : Prop := Claim7.holds Tryd.pinned (.plain (OpenSpec.ofChange bitsSamesSpec)) bitsSamesCard

/-- THE TIED CARD OF 'dustpanlaw01.BitsPlay'. -/
def bitsPlayCard : Claim7 := { stood := { row := bitsPlayRow, standIns := [], harness := (true, "95b8127fbd5c63cf697328b66cd8742780a3ab0297e80a195f5cd5a13dd85348"), looks := false }, kinds := [], alts := [], laidByText := true, laidKinds := [.data], laidTests := true, laidLooks := .later }
def BitsPlayCardSaid : Prop := Claim7.holds Tryd.pinned (.plain (OpenSpec.ofChange bitsPlaySpec)) bitsPlayCard

/-- THE TIED CARD OF 'dustpanlaw01.BitsRises'. -/
def bitsRisesCard : Claim7 := { stood := { row := bitsRisesRow, standIns := [], harness := (true, "95b8127fbd5c63cf697328b66cd8742780a3ab0297e80a195f5cd5a13dd85348"), looks := false }, kinds := [], alts := [], laidByText := true, laidKinds := [.data], laidTests := true, laidLooks := .later }
def BitsRisesCardSaid : Prop := Claim7.holds Tryd.pinned (.plain (OpenSpec.ofChange bitsRisesSpec)) bitsRisesCard

/-- THE TIED CARD OF 'dustpanlaw07.BlockCopies'. -/
def blockCopiesCard : Claim7 := { stood := { row := blockCopiesRow, standIns := [], harness := (true, "95b8127fbd5c63cf697328b66cd8742780a3ab0297e80a195f5cd5a13dd85348"), looks := false }, kinds := [], alts := [], laidByText := true, laidKinds := [.data, .data], laidTests := true, laidLooks := .later }
def BlockCopiesCardSaid : Prop := Claim7.holds Tryd.pinned (.plain (OpenSpec.ofChange blockCopiesSpec)) blockCopiesCard

/-- THE TIED CARD OF 'dustpanlaw01.BitsCopies'. -/
def bitsCopiesCard : Claim7 := { stood := { row := bitsCopiesRow, standIns := [], harness := (true, "95b8127fbd5c63cf697328b66cd8742780a3ab0297e80a195f5cd5a13dd85348"), looks := false }, kinds := [], alts := [], laidByText := true, laidKinds := [.data], laidTests := true, laidLooks := .later }
def BitsCopiesCardSaid : Prop := Claim7.holds Tryd.pinned (.plain (OpenSpec.ofChange bitsCopiesSpec)) bitsCopiesCard

/-- THE TIED CARD OF 'dustpanlaw01.BitsNone'. -/
def bitsNoneCard : Claim7 := { stood := { row := bitsNoneRow, standIns := [], harness := (true, "95b8127fbd5c63cf697328b66cd8742780a3ab0297e80a195f5cd5a13dd85348"), looks := false }, kinds := [], alts := [], laidByText := true, laidKinds := [.data], laidTests := true, laidLooks := .later }
def BitsNoneCardSaid : Prop := Claim7.holds Tryd.pinned (.plain (OpenSpec.ofChange bitsNoneSpec)) bitsNoneCard

/-- THE TIED CARD OF 'dustpanlaw07.BlockSlots'. -/
def blockSlotsCard : Claim7 := { stood := { row := blockSlotsRow, standIns := [], harness := (true, "95b8127fbd5c63cf697328b66cd8742780a3ab0297e80a195f5cd5a13dd85348"), looks := false }, kinds := [], alts := [], laidByText := true, laidKinds := [.data, .data], laidTests := true, laidLooks := .later }
def BlockSlotsCardSaid : Prop := Claim7.holds Tryd.pinned (.plain (OpenSpec.ofChange blockSlotsSpec)) blockSlotsCard

/-- THE TIED CARD OF 'dustpanlaw07.BlockPlays'. -/
def blockPlaysCard : Claim7 := { stood := { row := blockPlaysRow, standIns := [], harness := (true, "95b8127fbd5c63cf697328b66cd8742780a3ab0297e80a195f5cd5a13dd85348"), looks := false }, kinds := [], alts := [], laidByText := true, laidKinds := [.data, .data], laidTests := true, laidLooks := .later }
def BlockPlaysCardSaid : Prop := Claim7.holds Tryd.pinned (.plain (OpenSpec.ofChange blockPlaysSpec)) blockPlaysCard

/-- THE TIED CARD OF 'dustpanlaw07.BlockNone'. -/
def blockNoneCard : Claim7 := { stood := { row := blockNoneRow, standIns := [], harness := (true, "95b8127fbd5c63cf697328b66cd8742780a3ab0297e80a195f5cd5a13dd85348"), looks := false }, kinds := [], alts := [], laidByText := true, laidKinds := [.data, .data], laidTests := true, laidLooks := .later }
def BlockNoneCardSaid : Prop := Claim7.holds Tryd.pinned (.plain (OpenSpec.ofChange blockNoneSpec)) blockNoneCard

/-- THE TIED CARD OF 'dustpanlaw08.ListsPlay'. -/
def listsPlayCard : Claim7 := { stood := { row := listsPlayRow, standIns := [], harness := (true, "95b8127fbd5c63cf697328b66cd8742780a3ab0297e80a195f5cd5a13dd85348"), looks := false }, kinds := [], alts := [], laidByText := true, laidKinds := [.data, .data], laidTests := true, laidLooks := .later }
def ListsPlayCardSaid : Prop := Claim7.holds Tryd.pinned (.plain (OpenSpec.ofChange listsPlaySpec)) listsPlayCard

/-- THE TIED CARD OF 'dustpanlaw08.ListsNone'. -/
def listsNoneCard : Claim7 := { stood := { row := listsNoneRow, standIns := [], harness := (true, "95b8127fbd5c63cf697328b66cd8742780a3ab0297e80a195f5cd5a13dd85348"), looks := false }, kinds := [], alts := [], laidByText := true, laidKinds := [.data, .data], laidTests := true, laidLooks := .later }
def ListsNoneCardSaid : Prop := Claim7.holds Tryd.pinned (.plain (OpenSpec.ofChange listsNoneSpec)) listsNoneCard

/-- THE TIED CARD OF 'dustpanlaw08.ListsLast'. -/
def listsLastCard : Claim7 := { stood := { row := listsLastRow, standIns := [], harness := (true, "95b8127fbd5c63cf697328b66cd8742780a3ab0297e80a195f5cd5a13dd85348"), looks := false }, kinds := [], alts := [], laidByText := true, laidKinds := [.data, .data], laidTests := true, laidLooks := .later }
def ListsLastCardSaid : Prop := Claim7.holds Tryd.pinned (.plain (OpenSpec.ofChange listsLastSpec)) listsLastCard

/-- THE SECOND FORM's CARD OF 'dustpanlaw01.BitsSames'. -/
def bitsSamesUptoCard : Claim7 := { stood := { row := bitsSamesUptoRow, standIns := [], harness := (true, "95b8127fbd5c63cf697328b66cd8742780a3ab0297e80a195f5cd5a13dd85348"), looks := false }, kinds := [], alts := [], laidByText := true, laidKinds := [.data], laidTests := true, laidLooks := .later }
def BitsSamesUptoCardSaid : Prop := Claim7.holds Tryd.pinned (.plain (OpenSpec.upto bitsSamesSpec)) bitsSamesUptoCard

/-- THE SECOND FORM's CARD OF 'dustpanlaw01.BitsPlay'. -/
def bitsPlayUptoCard : Claim7 := { stood := { row := bitsPlayUptoRow, standIns := [], harness := (true, "95b8127fbd5c63cf697328b66cd8742780a3ab0297e80a195f5cd5a13dd85348"), looks := false }, kinds := [], alts := [], laidByText := true, laidKinds := [.data], laidTests := true, laidLooks := .later }
def BitsPlayUptoCardSaid : Prop := Claim7.holds Tryd.pinned (.plain (OpenSpec.upto bitsPlaySpec)) bitsPlayUptoCard

/-- THE SECOND FORM's CARD OF 'dustpanlaw01.BitsRises'. -/
def bitsRisesUptoCard : Claim7 := { stood := { row := bitsRisesUptoRow, standIns := [], harness := (true, "95b8127fbd5c63cf697328b66cd8742780a3ab0297e80a195f5cd5a13dd85348"), looks := false }, kinds := [], alts := [], laidByText := true, laidKinds := [.data], laidTests := true, laidLooks := .later }
def BitsRisesUptoCardSaid : Prop := Claim7.holds Tryd.pinned (.plain (OpenSpec.upto bitsRisesSpec)) bitsRisesUptoCard

/-- THE SECOND FORM's CARD OF 'dustpanlaw07.BlockCopies'. -/
def blockCopiesUptoCard : Claim7 := { stood := { row := blockCopiesUptoRow, standIns := [], harness := (true, "95b8127fbd5c63cf697328b66cd8742780a3ab0297e80a195f5cd5a13dd85348"), looks := false }, kinds := [], alts := [], laidByText := true, laidKinds := [.data, .data], laidTests := true, laidLooks := .later }
def BlockCopiesUptoCardSaid : Prop := Claim7.holds Tryd.pinned (.plain (OpenSpec.upto blockCopiesSpec)) blockCopiesUptoCard

/-- THE SECOND FORM's CARD OF 'dustpanlaw01.BitsCopies'. -/
def bitsCopiesUptoCard : Claim7 := { stood := { row := bitsCopiesUptoRow, standIns := [], harness := (true, "95b8127fbd5c63cf697328b66cd8742780a3ab0297e80a195f5cd5a13dd85348"), looks := false }, kinds := [], alts := [], laidByText := true, laidKinds := [.data], laidTests := true, laidLooks := .later }
def BitsCopiesUptoCardSaid : Prop := Claim7.holds Tryd.pinned (.plain (OpenSpec.upto bitsCopiesSpec)) bitsCopiesUptoCard

/-- THE SECOND FORM's CARD OF 'dustpanlaw01.BitsNone'. -/
def bitsNoneUptoCard : Claim7 := { stood := { row := bitsNoneUptoRow, standIns := [], harness := (true, "95b8127fbd5c63cf697328b66cd8742780a3ab0297e80a195f5cd5a13dd85348"), looks := false }, kinds := [], alts := [], laidByText := true, laidKinds := [.data], laidTests := true, laidLooks := .later }
def BitsNoneUptoCardSaid : Prop := Claim7.holds Tryd.pinned (.plain (OpenSpec.upto bitsNoneSpec)) bitsNoneUptoCard

/-- THE SECOND FORM's CARD OF 'dustpanlaw07.BlockSlots'. -/
def blockSlotsUptoCard : Claim7 := { stood := { row := blockSlotsUptoRow, standIns := [], harness := (true, "95b8127fbd5c63cf697328b66cd8742780a3ab0297e80a195f5cd5a13dd85348"), looks := false }, kinds := [], alts := [], laidByText := true, laidKinds := [.data, .data], laidTests := true, laidLooks := .later }
def BlockSlotsUptoCardSaid : Prop := Claim7.holds Tryd.pinned (.plain (OpenSpec.upto blockSlotsSpec)) blockSlotsUptoCard

/-- THE SECOND FORM's CARD OF 'dustpanlaw07.BlockPlays'. -/
def blockPlaysUptoCard : Claim7 := { stood := { row := blockPlaysUptoRow, standIns := [], harness := (true, "95b8127fbd5c63cf697328b66cd8742780a3ab0297e80a195f5cd5a13dd85348"), looks := false }, kinds := [], alts := [], laidByText := true, laidKinds := [.data, .data], laidTests := true, laidLooks := .later }
def BlockPlaysUptoCardSaid : Prop := Claim7.holds Tryd.pinned (.plain (OpenSpec.upto blockPlaysSpec)) blockPlaysUptoCard

/-- THE SECOND FORM's CARD OF 'dustpanlaw07.BlockNone'. -/
def blockNoneUptoCard : Claim7 := { stood := { row := blockNoneUptoRow, standIns := [], harness := (true, "95b8127fbd5c63cf697328b66cd8742780a3ab0297e80a195f5cd5a13dd85348"), looks := false }, kinds := [], alts := [], laidByText := true, laidKinds := [.data, .data], laidTests := true, laidLooks := .later }
def BlockNoneUptoCardSaid : Prop := Claim7.holds Tryd.pinned (.plain (OpenSpec.upto blockNoneSpec)) blockNoneUptoCard

/-- THE SECOND FORM's CARD OF 'dustpanlaw08.ListsPlay'. -/
def listsPlayUptoCard : Claim7 := { stood := { row := listsPlayUptoRow, standIns := [], harness := (true, "95b8127fbd5c63cf697328b66cd8742780a3ab0297e80a195f5cd5a13dd85348"), looks := false }, kinds := [], alts := [], laidByText := true, laidKinds := [.data, .data], laidTests := true, laidLooks := .later }
def ListsPlayUptoCardSaid : Prop := Claim7.holds Tryd.pinned (.plain (OpenSpec.upto listsPlaySpec)) listsPlayUptoCard

/-- THE SECOND FORM's CARD OF 'dustpanlaw08.ListsNone'. -/
def listsNoneUptoCard : Claim7 := { stood := { row := listsNoneUptoRow, standIns := [], harness := (true, "95b8127fbd5c63cf697328b66cd8742780a3ab0297e80a195f5cd5a13dd85348"), looks := false }, kinds := [], alts := [], laidByText := true, laidKinds := [.data, .data], laidTests := true, laidLooks := .later }
def ListsNoneUptoCardSaid : Prop := Claim7.holds Tryd.pinned (.plain (OpenSpec.upto listsNoneSpec)) listsNoneUptoCard

/-- THE SECOND FORM's CARD OF 'dustpanlaw08.ListsLast'. -/
def listsLastUptoCard : Claim7 := { stood := { row := listsLastUptoRow, standIns := [], harness := (true, "95b8127fbd5c63cf697328b66cd8742780a3ab0297e80a195f5cd5a13dd85348"), looks := false }, kinds := [], alts := [], laidByText := true, laidKinds := [.data, .data], laidTests := true, laidLooks := .later }
def ListsLastUptoCardSaid : Prop := Claim7.holds Tryd.pinned (.plain (OpenSpec.upto listsLastSpec)) listsLastUptoCard
end Rows
end Go.Proofs.YtjbmpdibjfcafaaDoor
