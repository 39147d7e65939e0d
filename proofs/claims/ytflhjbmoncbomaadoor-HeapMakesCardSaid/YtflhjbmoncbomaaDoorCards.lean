/-
  DERIVED. GIVEN WITH THE SEED: THE CARDS: each row of YtflhjbmoncbomaaDoorRows.lean that lists a variable, with what it lists TIED to the program's text (the seventh form; the later family's looks); each row that meets fmt, with fmt's text TOLD by the authors' own Lean function (tested against real Go, not proved from fmt's source: count such statements apart). THE CARD IS WHAT COUNTS. Prove the row's statement (the work); the ties are given (YtflhjbmoncbomaaDoorTie.lean); close each card by the builder's one call (the guide's Derived/Test/ToyasCard.lean, 'card_holds'). Laid BY PROGRAM, IN A SANDBOX (cutbox-door.mjs). By AI agents, Wed Nov 11 2026. No macro, syntax, notation, axiom, sorry.
-/
import Derived.Test.YtflhjbmoncbomaaDoorRows
import GoSem.ClaimSeven
namespace Go.Proofs.YtflhjbmoncbomaaDoor
namespace Rows

/-- THE TIED CARD OF 'dustpanlaw11.HeapCells'. -/
def heapCellsCard : Claim7 := { stood := { row := heapCellsRow, standIns := [], harness := (true, "1dbea6bb3c4426716e748815feee5c1244818338cb35092cf13947818a1f2a29"), looks := false }, kinds := [], alts := [], laidByText := true, laidKinds := [.data, .data], laidTests := true, laidLooks := .later }
def HeapCellsCardSaid : Prop := Claim7.holds Tryd.pinned (.plain (OpenSpec.ofChange heapCellsSpec)) heapCellsCard

/-- THE TIED CARD OF 'dustpanlaw11.HeapKeeps'. -/
def heapKeepsCard : Claim7 := { stood := { row := heapKeepsRow, standIns := [], harness := (true, "1dbea6bb3c4426716e748815feee5c1244818338cb35092cf13947818a1f2a29"), looks := false }, kinds := [], alts := [], laidByText := true, laidKinds := [.data, .data, .data], laidTests := true, laidLooks := .later }
def HeapKeepsCardSaid : Prop := Claim7.holds Tryd.pinned (.plain (OpenSpec.ofChange heapKeepsSpec)) heapKeepsCard

/-- THE TIED CARD OF 'dustpanlaw11.HeapMakes'. -/
def heapMakesCard : Claim7 := { stood := { row := heapMakesRow, standIns := [], harness := (true, "1dbea6bb3c4426716e748815feee5c1244818338cb35092cf13947818a1f2a29"), looks := false }, kinds := [], alts := [], laidByText := true, laidKinds := [.data, .data, .data], laidTests := true, laidLooks := .later }
def HeapMakesCardSaid : Prop := Claim7.holds Tryd.pinned (.plain (OpenSpec.ofChange heapMakesSpec)) heapMakesCard

/-- THE SECOND FORM's CARD OF 'dustpanlaw11.HeapCells'. -/
def heapCellsUptoCard : Claim7 := { stood := { row := heapCellsUptoRow, standIns := [], harness := (true, "1dbea6bb3c4426716e748815feee5c1244818338cb35092cf13947818a1f2a29"), looks := false }, kinds := [], alts := [], laidByText := true, laidKinds := [.data, .data], laidTests := true, laidLooks := .later }
def HeapCellsUptoCardSaid : Prop := Claim7.holds Tryd.pinned (.plain (OpenSpec.upto heapCellsSpec)) heapCellsUptoCard

/-- THE SECOND FORM's CARD OF 'dustpanlaw11.HeapKeeps'. -/
def heapKeepsUptoCard : Claim7 := { stood := { row := heapKeepsUptoRow, standIns := [], harness := (true, "1dbea6bb3c4426716e748815feee5c1244818338cb35092cf13947818a1f2a29"), looks := false }, kinds := [], alts := [], laidByText := true, laidKinds := [.data, .data, .data], laidTests := true, laidLooks := .later }
def HeapKeepsUptoCardSaid : Prop := Claim7.holds Tryd.pinned (.plain (OpenSpec.upto heapKeepsSpec)) heapKeepsUptoCard

/-- THE SECOND FORM's CARD OF 'dustpanlaw11.HeapMakes'. -/
def heapMakesUptoCard : Claim7 := { stood := { row := heapMakesUptoRow, standIns := [], harness := (true, "1dbea6bb3c4426716e748815feee5c1244818338cb35092cf13947818a1f2a29"), looks := false }, kinds := [], alts := [], laidByText := true, laidKinds := [.data, .data, .data], laidTests := true, laidLooks := .later }
def HeapMakesUptoCardSaid : Prop := Claim7.holds Tryd.pinned (.plain (OpenSpec.upto heapMakesSpec)) heapMakesUptoCard
end Rows
end Go.Proofs.YtflhjbmoncbomaaDoor
