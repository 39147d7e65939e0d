/-
  DERIVED. GIVEN WITH THE SEED: THE CARDS: each row of YtnobempbcdkoaaaGreatDoorRows.lean that lists a variable, with what it lists TIED to the program's text (the seventh form; the later family's looks); each row that meets fmt, with fmt's text TOLD by the authors' own Lean function (tested against real Go, not proved from fmt's source: count such statements apart). THE CARD IS WHAT COUNTS. Prove the row's statement (the work); the ties are given (YtnobempbcdkoaaaGreatDoorTie.lean); close each card by the builder's one call (the guide's Derived/Test/ToyasCard.lean, 'card_holds'). Laid BY PROGRAM, IN A SANDBOX (cutbox-door.mjs). By AI agents, Wed Nov 11 2026. No macro, syntax, notation, axiom, sorry.
-/
import Derived.Test.YtnobempbcdkoaaaGreatDoorRows
import GoSem.ClaimSeven
namespace Go.Proofs.YtnobempbcdkoaaaGreatDoor
namespace Rows

/-- THE TIED CARD OF 'dustpanlaw16.TraceGrows'. -/
def traceGrowsCard : Claim7 := { stood := { row := traceGrowsRow, standIns := [], harness := (true, "30927d64a571f7c1d3d3abcd343b8d79c0a1f3e57950e141bd1f5368e4b3feea"), looks := false }, kinds := [], alts := [], laidByText := true, laidKinds := [.data, .data, .data], laidTests := true, laidLooks := .later }
def TraceGrowsCardSaid : Prop := Claim7.holds Tryz.pinned (.plain (OpenSpec.ofChange traceGrowsSpec)) traceGrowsCard

/-- THE TIED CARD OF 'dustpanlaw16.TraceReaches'. -/
def traceReachesCard : Claim7 := { stood := { row := traceReachesRow, standIns := [], harness := (true, "30927d64a571f7c1d3d3abcd343b8d79c0a1f3e57950e141bd1f5368e4b3feea"), looks := false }, kinds := [], alts := [], laidByText := true, laidKinds := [.data, .data, .data], laidTests := true, laidLooks := .later }
def TraceReachesCardSaid : Prop := Claim7.holds Tryz.pinned (.plain (OpenSpec.ofChange traceReachesSpec)) traceReachesCard

/-- THE TIED CARD OF 'dustpanlaw19.NoteKeeps'. -/
def noteKeepsCard : Claim7 := { stood := { row := noteKeepsRow, standIns := [], harness := (true, "30927d64a571f7c1d3d3abcd343b8d79c0a1f3e57950e141bd1f5368e4b3feea"), looks := false }, kinds := [], alts := [], laidByText := true, laidKinds := [.data, .data, .data], laidTests := true, laidLooks := .later }
def NoteKeepsCardSaid : Prop := Claim7.holds Tryz.pinned (.plain (OpenSpec.ofChange noteKeepsSpec)) noteKeepsCard

/-- THE TIED CARD OF 'dustpanlaw19.NoteNotes'. -/
def noteNotesCard : Claim7 := { stood := { row := noteNotesRow, standIns := [], harness := (true, "30927d64a571f7c1d3d3abcd343b8d79c0a1f3e57950e141bd1f5368e4b3feea"), looks := false }, kinds := [], alts := [], laidByText := true, laidKinds := [.data, .data, .data], laidTests := true, laidLooks := .later }
def NoteNotesCardSaid : Prop := Claim7.holds Tryz.pinned (.plain (OpenSpec.ofChange noteNotesSpec)) noteNotesCard

/-- THE TIED CARD OF 'dustpanlaw19.NotePours'. -/
def notePoursCard : Claim7 := { stood := { row := notePoursRow, standIns := [], harness := (true, "30927d64a571f7c1d3d3abcd343b8d79c0a1f3e57950e141bd1f5368e4b3feea"), looks := false }, kinds := [], alts := [], laidByText := true, laidKinds := [.data, .data, .data], laidTests := true, laidLooks := .later }
def NotePoursCardSaid : Prop := Claim7.holds Tryz.pinned (.plain (OpenSpec.ofChange notePoursSpec)) notePoursCard

/-- THE TIED CARD OF 'dustpanlaw19.NoteRuns'. -/
def noteRunsCard : Claim7 := { stood := { row := noteRunsRow, standIns := [], harness := (true, "30927d64a571f7c1d3d3abcd343b8d79c0a1f3e57950e141bd1f5368e4b3feea"), looks := false }, kinds := [], alts := [], laidByText := true, laidKinds := [.data, .data, .data], laidTests := true, laidLooks := .later }
def NoteRunsCardSaid : Prop := Claim7.holds Tryz.pinned (.plain (OpenSpec.ofChange noteRunsSpec)) noteRunsCard

/-- THE TIED CARD OF 'dustpanlaw16.TraceMarks'. -/
def traceMarksCard : Claim7 := { stood := { row := traceMarksRow, standIns := [], harness := (true, "30927d64a571f7c1d3d3abcd343b8d79c0a1f3e57950e141bd1f5368e4b3feea"), looks := false }, kinds := [], alts := [], laidByText := true, laidKinds := [.data, .data, .data], laidTests := true, laidLooks := .later }
def TraceMarksCardSaid : Prop := Claim7.holds Tryz.pinned (.plain (OpenSpec.ofChange traceMarksSpec)) traceMarksCard

/-- THE TIED CARD OF 'dustpanlaw16.TraceRooms'. -/
def traceRoomsCard : Claim7 := { stood := { row := traceRoomsRow, standIns := [], harness := (true, "30927d64a571f7c1d3d3abcd343b8d79c0a1f3e57950e141bd1f5368e4b3feea"), looks := false }, kinds := [], alts := [], laidByText := true, laidKinds := [.data, .data, .data], laidTests := true, laidLooks := .later }
def TraceRoomsCardSaid : Prop := Claim7.holds Tryz.pinned (.plain (OpenSpec.ofChange traceRoomsSpec)) traceRoomsCard

/-- THE TIED CARD OF 'dustpanlaw16.TraceNone'. -/
def traceNoneCard : Claim7 := { stood := { row := traceNoneRow, standIns := [], harness := (true, "30927d64a571f7c1d3d3abcd343b8d79c0a1f3e57950e141bd1f5368e4b3feea"), looks := false }, kinds := [], alts := [], laidByText := true, laidKinds := [.data, .data, .data], laidTests := true, laidLooks := .later }
def TraceNoneCardSaid : Prop := Claim7.holds Tryz.pinned (.plain (OpenSpec.ofChange traceNoneSpec)) traceNoneCard

/-- THE SECOND FORM's CARD OF 'dustpanlaw16.TraceGrows'. -/
def traceGrowsUptoCard : Claim7 := { stood := { row := traceGrowsUptoRow, standIns := [], harness := (true, "30927d64a571f7c1d3d3abcd343b8d79c0a1f3e57950e141bd1f5368e4b3feea"), looks := false }, kinds := [], alts := [], laidByText := true, laidKinds := [.data, .data, .data], laidTests := true, laidLooks := .later }
def TraceGrowsUptoCardSaid : Prop := Claim7.holds Tryz.pinned (.plain (OpenSpec.upto traceGrowsSpec)) traceGrowsUptoCard

/-- THE SECOND FORM's CARD OF 'dustpanlaw16.TraceReaches'. -/
def traceReachesUptoCard : Claim7 := { stood := { row := traceReachesUptoRow, standIns := [], harness := (true, "30927d64a571f7c1d3d3abcd343b8d79c0a1f3e57950e141bd1f5368e4b3feea"), looks := false }, kinds := [], alts := [], laidByText := true, laidKinds := [.data, .data, .data], laidTests := true, laidLooks := .later }
def TraceReachesUptoCardSaid : Prop := Claim7.holds Tryz.pinned (.plain (OpenSpec.upto traceReachesSpec)) traceReachesUptoCard

/-- THE SECOND FORM's CARD OF 'dustpanlaw19.NoteKeeps'. -/
def noteKeepsUptoCard : Claim7 := { stood := { row := noteKeepsUptoRow, standIns := [], harness := (true, "30927d64a571f7c1d3d3abcd343b8d79c0a1f3e57950e141bd1f5368e4b3feea"), looks := false }, kinds := [], alts := [], laidByText := true, laidKinds := [.data, .data, .data], laidTests := true, laidLooks := .later }
def NoteKeepsUptoCardSaid : Prop := Claim7.holds Tryz.pinned (.plain (OpenSpec.upto noteKeepsSpec)) noteKeepsUptoCard

/-- THE SECOND FORM's CARD OF 'dustpanlaw19.NoteNotes'. -/
def noteNotesUptoCard : Claim7 := { stood := { row := noteNotesUptoRow, standIns := [], harness := (true, "30927d64a571f7c1d3d3abcd343b8d79c0a1f3e57950e141bd1f5368e4b3feea"), looks := false }, kinds := [], alts := [], laidByText := true, laidKinds := [.data, .data, .data], laidTests := true, laidLooks := .later }
def NoteNotesUptoCardSaid : Prop := Claim7.holds Tryz.pinned (.plain (OpenSpec.upto noteNotesSpec)) noteNotesUptoCard

/-- THE SECOND FORM's CARD OF 'dustpanlaw19.NotePours'. -/
def notePoursUptoCard : Claim7 := { stood := { row := notePoursUptoRow, standIns := [], harness := (true, "30927d64a571f7c1d3d3abcd343b8d79c0a1f3e57950e141bd1f5368e4b3feea"), looks := false }, kinds := [], alts := [], laidByText := true, laidKinds := [.data, .data, .data], laidTests := true, laidLooks := .later }
def NotePoursUptoCardSaid : Prop := Claim7.holds Tryz.pinned (.plain (OpenSpec.upto notePoursSpec)) notePoursUptoCard

/-- THE SECOND FORM's CARD OF 'dustpanlaw19.NoteRuns'. -/
def noteRunsUptoCard : Claim7 := { stood := { row := noteRunsUptoRow, standIns := [], harness := (true, "30927d64a571f7c1d3d3abcd343b8d79c0a1f3e57950e141bd1f5368e4b3feea"), looks := false }, kinds := [], alts := [], laidByText := true, laidKinds := [.data, .data, .data], laidTests := true, laidLooks := .later }
def NoteRunsUptoCardSaid : Prop := Claim7.holds Tryz.pinned (.plain (OpenSpec.upto noteRunsSpec)) noteRunsUptoCard

/-- THE SECOND FORM's CARD OF 'dustpanlaw16.TraceMarks'. -/
def traceMarksUptoCard : Claim7 := { stood := { row := traceMarksUptoRow, standIns := [], harness := (true, "30927d64a571f7c1d3d3abcd343b8d79c0a1f3e57950e141bd1f5368e4b3feea"), looks := false }, kinds := [], alts := [], laidByText := true, laidKinds := [.data, .data, .data], laidTests := true, laidLooks := .later }
def TraceMarksUptoCardSaid : Prop := Claim7.holds Tryz.pinned (.plain (OpenSpec.upto traceMarksSpec)) traceMarksUptoCard

/-- THE SECOND FORM's CARD OF 'dustpanlaw16.TraceRooms'. -/
def traceRoomsUptoCard : Claim7 := { stood := { row := traceRoomsUptoRow, standIns := [], harness := (true, "30927d64a571f7c1d3d3abcd343b8d79c0a1f3e57950e141bd1f5368e4b3feea"), looks := false }, kinds := [], alts := [], laidByText := true, laidKinds := [.data, .data, .data], laidTests := true, laidLooks := .later }
def TraceRoomsUptoCardSaid : Prop := Claim7.holds Tryz.pinned (.plain (OpenSpec.upto traceRoomsSpec)) traceRoomsUptoCard

/-- THE SECOND FORM's CARD OF 'dustpanlaw16.TraceNone'. -/
def traceNoneUptoCard : Claim7 := { stood := { row := traceNoneUptoRow, standIns := [], harness := (true, "30927d64a571f7c1d3d3abcd343b8d79c0a1f3e57950e141bd1f5368e4b3feea"), looks := false }, kinds := [], alts := [], laidByText := true, laidKinds := [.data, .data, .data], laidTests := true, laidLooks := .later }
def TraceNoneUptoCardSaid : Prop := Claim7.holds Tryz.pinned (.plain (OpenSpec.upto traceNoneSpec)) traceNoneUptoCard
end Rows
end Go.Proofs.YtnobempbcdkoaaaGreatDoor
