/-
  NARROWER THAN 'FOR EVERY INPUT', by the rows' own cells (each row's printed sentence says how): TraceGrows: laid · TraceReaches: laid · NoteKeeps: laid · NoteNotes: laid · NotePours: laid · NoteRuns: laid · TraceMarks: laid · TraceRooms: laid · TraceNone: laid.
  DERIVED. THE GIVEN ROWS OF THIS SEAT. 9 by the template 'for every input the law returns true; each argument reads behind the call as it read before'; 0 by the template 'total and deterministic' (their statements: YtnobempbcdkoaaaGreatDoorTotals.lean).
  GIVEN WITH THE SEED: the statements are not yours to turn. If you find one false, say at which input.
  Laid BY PROGRAM, IN A SANDBOX (cutbox-rows.mjs): the forced cells as the released guide's own fill.sh prints them over the translation c7c9967d7d5f3df4… (all of the seat's roots in one cut). By AI agents, Wed Nov 11 2026. No macro, syntax, notation, axiom, sorry.
-/
import Derived.Test.YtnobempbcdkoaaaGreatDoorChecked
import GoSem.Claim
import GoSem.ClaimJoined
import GoSem.ClaimMapViews
import Derived.JoinedTies
import Derived.KernelRfl
namespace Go.Proofs.YtnobempbcdkoaaaGreatDoor
/- THE CELL 'sum', in the pinned program and in every row, IS THE sha256 OF THE DUMP (.gsa) THAT YtnobempbcdkoaaaGreatDoorProg.lean LOADS. Nothing in Lean hashes anything: it is a label: what it is worth is what the hold of that sum in a sandbox is worth. -/
noncomputable def Tryz.pinned : Pinned := { name := "ytnobempbcdkoaaagreatdoor", sum := "c7c9967d7d5f3df4f9f7875184a4160ece7e3857a2932f8e95e29dfeda633342", checked := Tryz.checked }
namespace Rows
def none {H : Type} : Left H := { results := [], args := [] }

/- WHAT THE LISTED PACKAGE-LEVEL VARIABLES READ AS WHEN THE CALL BEGINS. Each datum BY PROGRAM (the guide's laid-datum.mjs) off the statement by which the dump's own 'gosem.cut.vars' lays the variable. In a bare row this is a premise. The card (YtnobempbcdkoaaaGreatDoorCards.lean) ties it to the program's text. -/
def laid_math_bits_deBruijn64tab {H : Type} : DataW H := .agg [.lit (.int .u8 0), .lit (.int .u8 1), .lit (.int .u8 56), .lit (.int .u8 2), .lit (.int .u8 57), .lit (.int .u8 49), .lit (.int .u8 28), .lit (.int .u8 3), .lit (.int .u8 61), .lit (.int .u8 58), .lit (.int .u8 42), .lit (.int .u8 50), .lit (.int .u8 38), .lit (.int .u8 29), .lit (.int .u8 17), .lit (.int .u8 4), .lit (.int .u8 62), .lit (.int .u8 47), .lit (.int .u8 59), .lit (.int .u8 36), .lit (.int .u8 45), .lit (.int .u8 43), .lit (.int .u8 51), .lit (.int .u8 22), .lit (.int .u8 53), .lit (.int .u8 39), .lit (.int .u8 33), .lit (.int .u8 30), .lit (.int .u8 24), .lit (.int .u8 18), .lit (.int .u8 12), .lit (.int .u8 5), .lit (.int .u8 63), .lit (.int .u8 55), .lit (.int .u8 48), .lit (.int .u8 27), .lit (.int .u8 60), .lit (.int .u8 41), .lit (.int .u8 37), .lit (.int .u8 16), .lit (.int .u8 46), .lit (.int .u8 35), .lit (.int .u8 44), .lit (.int .u8 21), .lit (.int .u8 52), .lit (.int .u8 32), .lit (.int .u8 23), .lit (.int .u8 11), .lit (.int .u8 54), .lit (.int .u8 26), .lit (.int .u8 40), .lit (.int .u8 15), .lit (.int .u8 34), .lit (.int .u8 20), .lit (.int .u8 31), .lit (.int .u8 10), .lit (.int .u8 25), .lit (.int .u8 14), .lit (.int .u8 19), .lit (.int .u8 9), .lit (.int .u8 13), .lit (.int .u8 8), .lit (.int .u8 7), .lit (.int .u8 6)]
def laid_dustpan_config_limits {H : Type} : DataW H := .agg [.agg [.lit (.int .i64 1), .lit (.int .i64 4096)], .agg [.lit (.int .i64 16), .lit (.int .i64 256)], .agg [.lit (.int .i64 1), .lit (.int .i64 8)], .agg [.lit (.int .i64 1), .lit (.int .i64 64)], .agg [.lit (.int .i64 0), .lit (.int .i64 64)], .agg [.lit (.int .i64 1), .lit (.int .i64 256)], .agg [.lit (.int .i64 1), .lit (.int .i64 4096)]]
def laid_dustpan_class_sizes {H : Type} : DataW H := .agg [.lit (.int .i64 2), .lit (.int .i64 4), .lit (.int .i64 8), .lit (.int .i64 16)]

/-- 'dustpanlaw16.TraceGrows': WHATEVER THE INPUT: true; the input reads as it did. -/
def traceGrowsSpec : ChangeSpec := { name := "traceGrows", fn := fun _ => fun
  | [d1, d2, d3] => { results := [.lit (.bool true)], args := [d1, d2, d3] }
  | _ => none }
def traceGrowsRow : OpenClaim := { program := "ytnobempbcdkoaaagreatdoor", sum := "c7c9967d7d5f3df4f9f7875184a4160ece7e3857a2932f8e95e29dfeda633342", func := "dustpan/dustpanlaw16.TraceGrows", spec := "traceGrows", unfollowed := true, recurses := true, named := ["dustpan/config.limits", "dustpan/class.sizes", "math/bits.deBruijn64tab"], apart := false, laid := [("math/bits.deBruijn64tab", laid_math_bits_deBruijn64tab), ("dustpan/config.limits", laid_dustpan_config_limits), ("dustpan/class.sizes", laid_dustpan_class_sizes)] }
def TraceGrowsSaid : Prop := traceGrowsRow.holds Tryz.pinned (OpenSpec.ofChange traceGrowsSpec)

/-- ITS FALSE NEIGHBOUR: 'it returns false'. Refute it at one input. -/
def traceGrowsWrong : ChangeSpec := { name := "traceGrows", fn := fun _ => fun
  | [d1, d2, d3] => { results := [.lit (.bool false)], args := [d1, d2, d3] }
  | _ => none }
def TraceGrowsWrongFalsely : Prop := traceGrowsRow.holds Tryz.pinned (OpenSpec.ofChange traceGrowsWrong)

/-- 'dustpanlaw16.TraceReaches': WHATEVER THE INPUT: true; the input reads as it did. -/
def traceReachesSpec : ChangeSpec := { name := "traceReaches", fn := fun _ => fun
  | [d1, d2, d3] => { results := [.lit (.bool true)], args := [d1, d2, d3] }
  | _ => none }
def traceReachesRow : OpenClaim := { program := "ytnobempbcdkoaaagreatdoor", sum := "c7c9967d7d5f3df4f9f7875184a4160ece7e3857a2932f8e95e29dfeda633342", func := "dustpan/dustpanlaw16.TraceReaches", spec := "traceReaches", unfollowed := true, recurses := true, named := ["dustpan/config.limits", "dustpan/class.sizes", "math/bits.deBruijn64tab"], apart := false, laid := [("math/bits.deBruijn64tab", laid_math_bits_deBruijn64tab), ("dustpan/config.limits", laid_dustpan_config_limits), ("dustpan/class.sizes", laid_dustpan_class_sizes)] }
def TraceReachesSaid : Prop := traceReachesRow.holds Tryz.pinned (OpenSpec.ofChange traceReachesSpec)

/-- ITS FALSE NEIGHBOUR: 'it returns false'. Refute it at one input. -/
def traceReachesWrong : ChangeSpec := { name := "traceReaches", fn := fun _ => fun
  | [d1, d2, d3] => { results := [.lit (.bool false)], args := [d1, d2, d3] }
  | _ => none }
def TraceReachesWrongFalsely : Prop := traceReachesRow.holds Tryz.pinned (OpenSpec.ofChange traceReachesWrong)

/-- 'dustpanlaw19.NoteKeeps': WHATEVER THE INPUT: true; the input reads as it did. -/
def noteKeepsSpec : ChangeSpec := { name := "noteKeeps", fn := fun _ => fun
  | [d1, d2] => { results := [.lit (.bool true)], args := [d1, d2] }
  | _ => none }
def noteKeepsRow : OpenClaim := { program := "ytnobempbcdkoaaagreatdoor", sum := "c7c9967d7d5f3df4f9f7875184a4160ece7e3857a2932f8e95e29dfeda633342", func := "dustpan/dustpanlaw19.NoteKeeps", spec := "noteKeeps", unfollowed := true, recurses := true, named := ["dustpan/config.limits", "dustpan/class.sizes", "math/bits.deBruijn64tab"], apart := false, laid := [("math/bits.deBruijn64tab", laid_math_bits_deBruijn64tab), ("dustpan/config.limits", laid_dustpan_config_limits), ("dustpan/class.sizes", laid_dustpan_class_sizes)] }
def NoteKeepsSaid : Prop := noteKeepsRow.holds Tryz.pinned (OpenSpec.ofChange noteKeepsSpec)

/-- ITS FALSE NEIGHBOUR: 'it returns false'. Refute it at one input. -/
def noteKeepsWrong : ChangeSpec := { name := "noteKeeps", fn := fun _ => fun
  | [d1, d2] => { results := [.lit (.bool false)], args := [d1, d2] }
  | _ => none }
def NoteKeepsWrongFalsely : Prop := noteKeepsRow.holds Tryz.pinned (OpenSpec.ofChange noteKeepsWrong)

/-- 'dustpanlaw19.NoteNotes': WHATEVER THE INPUT: true; the input reads as it did. -/
def noteNotesSpec : ChangeSpec := { name := "noteNotes", fn := fun _ => fun
  | [d1, d2, d3] => { results := [.lit (.bool true)], args := [d1, d2, d3] }
  | _ => none }
def noteNotesRow : OpenClaim := { program := "ytnobempbcdkoaaagreatdoor", sum := "c7c9967d7d5f3df4f9f7875184a4160ece7e3857a2932f8e95e29dfeda633342", func := "dustpan/dustpanlaw19.NoteNotes", spec := "noteNotes", unfollowed := true, recurses := true, named := ["dustpan/config.limits", "dustpan/class.sizes", "math/bits.deBruijn64tab"], apart := false, laid := [("math/bits.deBruijn64tab", laid_math_bits_deBruijn64tab), ("dustpan/config.limits", laid_dustpan_config_limits), ("dustpan/class.sizes", laid_dustpan_class_sizes)] }
def NoteNotesSaid : Prop := noteNotesRow.holds Tryz.pinned (OpenSpec.ofChange noteNotesSpec)

/-- ITS FALSE NEIGHBOUR: 'it returns false'. Refute it at one input. -/
def noteNotesWrong : ChangeSpec := { name := "noteNotes", fn := fun _ => fun
  | [d1, d2, d3] => { results := [.lit (.bool false)], args := [d1, d2, d3] }
  | _ => none }
def NoteNotesWrongFalsely : Prop := noteNotesRow.holds Tryz.pinned (OpenSpec.ofChange noteNotesWrong)

/-- 'dustpanlaw19.NotePours': WHATEVER THE INPUT: true; the input reads as it did. -/
def notePoursSpec : ChangeSpec := { name := "notePours", fn := fun _ => fun
  | [d1, d2] => { results := [.lit (.bool true)], args := [d1, d2] }
  | _ => none }
def notePoursRow : OpenClaim := { program := "ytnobempbcdkoaaagreatdoor", sum := "c7c9967d7d5f3df4f9f7875184a4160ece7e3857a2932f8e95e29dfeda633342", func := "dustpan/dustpanlaw19.NotePours", spec := "notePours", unfollowed := true, recurses := true, named := ["dustpan/config.limits", "dustpan/class.sizes", "math/bits.deBruijn64tab"], apart := false, laid := [("math/bits.deBruijn64tab", laid_math_bits_deBruijn64tab), ("dustpan/config.limits", laid_dustpan_config_limits), ("dustpan/class.sizes", laid_dustpan_class_sizes)] }
def NotePoursSaid : Prop := notePoursRow.holds Tryz.pinned (OpenSpec.ofChange notePoursSpec)

/-- ITS FALSE NEIGHBOUR: 'it returns false'. Refute it at one input. -/
def notePoursWrong : ChangeSpec := { name := "notePours", fn := fun _ => fun
  | [d1, d2] => { results := [.lit (.bool false)], args := [d1, d2] }
  | _ => none }
def NotePoursWrongFalsely : Prop := notePoursRow.holds Tryz.pinned (OpenSpec.ofChange notePoursWrong)

/-- 'dustpanlaw19.NoteRuns': WHATEVER THE INPUT: true; the input reads as it did. -/
def noteRunsSpec : ChangeSpec := { name := "noteRuns", fn := fun _ => fun
  | [d1, d2] => { results := [.lit (.bool true)], args := [d1, d2] }
  | _ => none }
def noteRunsRow : OpenClaim := { program := "ytnobempbcdkoaaagreatdoor", sum := "c7c9967d7d5f3df4f9f7875184a4160ece7e3857a2932f8e95e29dfeda633342", func := "dustpan/dustpanlaw19.NoteRuns", spec := "noteRuns", unfollowed := true, recurses := true, named := ["dustpan/config.limits", "dustpan/class.sizes", "math/bits.deBruijn64tab"], apart := false, laid := [("math/bits.deBruijn64tab", laid_math_bits_deBruijn64tab), ("dustpan/config.limits", laid_dustpan_config_limits), ("dustpan/class.sizes", laid_dustpan_class_sizes)] }
def NoteRunsSaid : Prop := noteRunsRow.holds Tryz.pinned (OpenSpec.ofChange noteRunsSpec)

/-- ITS FALSE NEIGHBOUR: 'it returns false'. Refute it at one input. -/
def noteRunsWrong : ChangeSpec := { name := "noteRuns", fn := fun _ => fun
  | [d1, d2] => { results := [.lit (.bool false)], args := [d1, d2] }
  | _ => none }
def NoteRunsWrongFalsely : Prop := noteRunsRow.holds Tryz.pinned (OpenSpec.ofChange noteRunsWrong)

/-- 'dustpanlaw16.TraceMarks': WHATEVER THE INPUT: true; the input reads as it did. -/
def traceMarksSpec : ChangeSpec := { name := "traceMarks", fn := fun _ => fun
  | [d1, d2, d3] => { results := [.lit (.bool true)], args := [d1, d2, d3] }
  | _ => none }
def traceMarksRow : OpenClaim := { program := "ytnobempbcdkoaaagreatdoor", sum := "c7c9967d7d5f3df4f9f7875184a4160ece7e3857a2932f8e95e29dfeda633342", func := "dustpan/dustpanlaw16.TraceMarks", spec := "traceMarks", unfollowed := true, recurses := true, named := ["dustpan/config.limits", "dustpan/class.sizes", "math/bits.deBruijn64tab"], apart := false, laid := [("math/bits.deBruijn64tab", laid_math_bits_deBruijn64tab), ("dustpan/config.limits", laid_dustpan_config_limits), ("dustpan/class.sizes", laid_dustpan_class_sizes)] }
def TraceMarksSaid : Prop := traceMarksRow.holds Tryz.pinned (OpenSpec.ofChange traceMarksSpec)

/-- ITS FALSE NEIGHBOUR: 'it returns false'. Refute it at one input. -/
def traceMarksWrong : ChangeSpec := { name := "traceMarks", fn := fun _ => fun
  | [d1, d2, d3] => { results := [.lit (.bool false)], args := [d1, d2, d3] }
  | _ => none }
def TraceMarksWrongFalsely : Prop := traceMarksRow.holds Tryz.pinned (OpenSpec.ofChange traceMarksWrong)

/-- 'dustpanlaw16.TraceRooms': WHATEVER THE INPUT: true; the input reads as it did. -/
def traceRoomsSpec : ChangeSpec := { name := "traceRooms", fn := fun _ => fun
  | [d1, d2, d3] => { results := [.lit (.bool true)], args := [d1, d2, d3] }
  | _ => none }
def traceRoomsRow : OpenClaim := { program := "ytnobempbcdkoaaagreatdoor", sum := "c7c9967d7d5f3df4f9f7875184a4160ece7e3857a2932f8e95e29dfeda633342", func := "dustpan/dustpanlaw16.TraceRooms", spec := "traceRooms", unfollowed := true, recurses := true, named := ["dustpan/config.limits", "dustpan/class.sizes", "math/bits.deBruijn64tab"], apart := false, laid := [("math/bits.deBruijn64tab", laid_math_bits_deBruijn64tab), ("dustpan/config.limits", laid_dustpan_config_limits), ("dustpan/class.sizes", laid_dustpan_class_sizes)] }
def TraceRoomsSaid : Prop := traceRoomsRow.holds Tryz.pinned (OpenSpec.ofChange traceRoomsSpec)

/-- ITS FALSE NEIGHBOUR: 'it returns false'. Refute it at one input. -/
def traceRoomsWrong : ChangeSpec := { name := "traceRooms", fn := fun _ => fun
  | [d1, d2, d3] => { results := [.lit (.bool false)], args := [d1, d2, d3] }
  | _ => none }
def TraceRoomsWrongFalsely : Prop := traceRoomsRow.holds Tryz.pinned (OpenSpec.ofChange traceRoomsWrong)

/-- 'dustpanlaw16.TraceNone': WHATEVER THE INPUT: true; the input reads as it did. -/
def traceNoneSpec : ChangeSpec := { name := "traceNone", fn := fun _ => fun
  | [d1, d2, d3] => { results := [.lit (.bool true)], args := [d1, d2, d3] }
  | _ => none }
def traceNoneRow : OpenClaim := { program := "ytnobempbcdkoaaagreatdoor", sum := "c7c9967d7d5f3df4f9f7875184a4160ece7e3857a2932f8e95e29dfeda633342", func := "dustpan/dustpanlaw16.TraceNone", spec := "traceNone", unfollowed := true, recurses := true, named := ["math/bits.deBruijn64tab", "dustpan/config.limits", "dustpan/class.sizes"], apart := false, laid := [("math/bits.deBruijn64tab", laid_math_bits_deBruijn64tab), ("dustpan/config.limits", laid_dustpan_config_limits), ("dustpan/class.sizes", laid_dustpan_class_sizes)] }
def TraceNoneSaid : Prop := traceNoneRow.holds Tryz.pinned (OpenSpec.ofChange traceNoneSpec)

/-- ITS FALSE NEIGHBOUR: 'it returns false'. Refute it at one input. -/
def traceNoneWrong : ChangeSpec := { name := "traceNone", fn := fun _ => fun
  | [d1, d2, d3] => { results := [.lit (.bool false)], args := [d1, d2, d3] }
  | _ => none }
def TraceNoneWrongFalsely : Prop := traceNoneRow.holds Tryz.pinned (OpenSpec.ofChange traceNoneWrong)

/- THE SECOND FORM. 'bulk': how many values and letters a reading holds, each counted each time it is reached (what is shared counts as often as it is met; a slice's spare places count too). A statement '..UptoSaid' is the law's where the arguments, and the package variables that the reading takes, are together of bulk at most 1048576: NARROWER than '..Said'. Prove '..Said' where nothing that the law and all that it calls make is longer than what came in: it says more and counts as full. Else prove '..UptoSaid'. A law counts once. -/
mutual
def uptoBulk {H : Type} : DataW H → Nat
  | .lit (.string bytes) => bytes.length + 1
  | .lit _ => 1
  | .nil => 1
  | .ptr d => uptoBulk d + 1
  | .slice elems spare => uptoBulkAll elems + uptoBulkAll spare + 1
  | .agg parts => uptoBulkAll parts + 1
  | .iface _ d => uptoBulk d + 1
  | .map entries => uptoBulkEntries entries + 1
  | .held _ => 1
def uptoBulkAll {H : Type} : List (DataW H) → Nat
  | [] => 0
  | d :: r => uptoBulk d + uptoBulkAll r
def uptoBulkEntries {H : Type} : List (Lit × DataW H) → Nat
  | [] => 0
  | x :: r => uptoBulkEntry x + uptoBulkEntries r
def uptoBulkEntry {H : Type} : Lit × DataW H → Nat
  | (.string bytes, d) => bytes.length + uptoBulk d + 1
  | (_, d) => uptoBulk d + 1
 end
def uptoSmall : (H : Type) → List (DataW H) → Bool := fun _ ds => decide (uptoBulkAll ds ≤ 1048576)
def OpenSpec.upto (s : _root_.Go.ChangeSpec) : _root_.Go.OpenSpec := { _root_.Go.OpenSpec.ofChange s with cond := some uptoSmall }

/-- 'dustpanlaw16.TraceGrows', WHERE WHAT IT READS IS OF BULK AT MOST 1048576: true; the input reads as it did. -/
def traceGrowsUptoRow : OpenClaim := { program := "ytnobempbcdkoaaagreatdoor", sum := "c7c9967d7d5f3df4f9f7875184a4160ece7e3857a2932f8e95e29dfeda633342", func := "dustpan/dustpanlaw16.TraceGrows", spec := "traceGrows", unfollowed := true, recurses := true, named := ["dustpan/config.limits", "dustpan/class.sizes", "math/bits.deBruijn64tab"], apart := false, laid := [("math/bits.deBruijn64tab", laid_math_bits_deBruijn64tab), ("dustpan/config.limits", laid_dustpan_config_limits), ("dustpan/class.sizes", laid_dustpan_class_sizes)], narrowed := true }
def TraceGrowsUptoSaid : Prop := traceGrowsUptoRow.holds Tryz.pinned (OpenSpec.upto traceGrowsSpec)

/-- 'dustpanlaw16.TraceReaches', WHERE WHAT IT READS IS OF BULK AT MOST 1048576: true; the input reads as it did. -/
def traceReachesUptoRow : OpenClaim := { program := "ytnobempbcdkoaaagreatdoor", sum := "c7c9967d7d5f3df4f9f7875184a4160ece7e3857a2932f8e95e29dfeda633342", func := "dustpan/dustpanlaw16.TraceReaches", spec := "traceReaches", unfollowed := true, recurses := true, named := ["dustpan/config.limits", "dustpan/class.sizes", "math/bits.deBruijn64tab"], apart := false, laid := [("math/bits.deBruijn64tab", laid_math_bits_deBruijn64tab), ("dustpan/config.limits", laid_dustpan_config_limits), ("dustpan/class.sizes", laid_dustpan_class_sizes)], narrowed := true }
def TraceReachesUptoSaid : Prop := traceReachesUptoRow.holds Tryz.pinned (OpenSpec.upto traceReachesSpec)

/-- 'dustpanlaw19.NoteKeeps', WHERE WHAT IT READS IS OF BULK AT MOST 1048576: true; the input reads as it did. -/
def noteKeepsUptoRow : OpenClaim := { program := "ytnobempbcdkoaaagreatdoor", sum := "c7c9967d7d5f3df4f9f7875184a4160ece7e3857a2932f8e95e29dfeda633342", func := "dustpan/dustpanlaw19.NoteKeeps", spec := "noteKeeps", unfollowed := true, recurses := true, named := ["dustpan/config.limits", "dustpan/class.sizes", "math/bits.deBruijn64tab"], apart := false, laid := [("math/bits.deBruijn64tab", laid_math_bits_deBruijn64tab), ("dustpan/config.limits", laid_dustpan_config_limits), ("dustpan/class.sizes", laid_dustpan_class_sizes)], narrowed := true }
def NoteKeepsUptoSaid : Prop := noteKeepsUptoRow.holds Tryz.pinned (OpenSpec.upto noteKeepsSpec)

/-- 'dustpanlaw19.NoteNotes', WHERE WHAT IT READS IS OF BULK AT MOST 1048576: true; the input reads as it did. -/
def noteNotesUptoRow : OpenClaim := { program := "ytnobempbcdkoaaagreatdoor", sum := "c7c9967d7d5f3df4f9f7875184a4160ece7e3857a2932f8e95e29dfeda633342", func := "dustpan/dustpanlaw19.NoteNotes", spec := "noteNotes", unfollowed := true, recurses := true, named := ["dustpan/config.limits", "dustpan/class.sizes", "math/bits.deBruijn64tab"], apart := false, laid := [("math/bits.deBruijn64tab", laid_math_bits_deBruijn64tab), ("dustpan/config.limits", laid_dustpan_config_limits), ("dustpan/class.sizes", laid_dustpan_class_sizes)], narrowed := true }
def NoteNotesUptoSaid : Prop := noteNotesUptoRow.holds Tryz.pinned (OpenSpec.upto noteNotesSpec)

/-- 'dustpanlaw19.NotePours', WHERE WHAT IT READS IS OF BULK AT MOST 1048576: true; the input reads as it did. -/
def notePoursUptoRow : OpenClaim := { program := "ytnobempbcdkoaaagreatdoor", sum := "c7c9967d7d5f3df4f9f7875184a4160ece7e3857a2932f8e95e29dfeda633342", func := "dustpan/dustpanlaw19.NotePours", spec := "notePours", unfollowed := true, recurses := true, named := ["dustpan/config.limits", "dustpan/class.sizes", "math/bits.deBruijn64tab"], apart := false, laid := [("math/bits.deBruijn64tab", laid_math_bits_deBruijn64tab), ("dustpan/config.limits", laid_dustpan_config_limits), ("dustpan/class.sizes", laid_dustpan_class_sizes)], narrowed := true }
def NotePoursUptoSaid : Prop := notePoursUptoRow.holds Tryz.pinned (OpenSpec.upto notePoursSpec)

/-- 'dustpanlaw19.NoteRuns', WHERE WHAT IT READS IS OF BULK AT MOST 1048576: true; the input reads as it did. -/
def noteRunsUptoRow : OpenClaim := { program := "ytnobempbcdkoaaagreatdoor", sum := "c7c9967d7d5f3df4f9f7875184a4160ece7e3857a2932f8e95e29dfeda633342", func := "dustpan/dustpanlaw19.NoteRuns", spec := "noteRuns", unfollowed := true, recurses := true, named := ["dustpan/config.limits", "dustpan/class.sizes", "math/bits.deBruijn64tab"], apart := false, laid := [("math/bits.deBruijn64tab", laid_math_bits_deBruijn64tab), ("dustpan/config.limits", laid_dustpan_config_limits), ("dustpan/class.sizes", laid_dustpan_class_sizes)], narrowed := true }
def NoteRunsUptoSaid : Prop := noteRunsUptoRow.holds Tryz.pinned (OpenSpec.upto noteRunsSpec)

/-- 'dustpanlaw16.TraceMarks', WHERE WHAT IT READS IS OF BULK AT MOST 1048576: true; the input reads as it did. -/
def traceMarksUptoRow : OpenClaim := { program := "ytnobempbcdkoaaagreatdoor", sum := "c7c9967d7d5f3df4f9f7875184a4160ece7e3857a2932f8e95e29dfeda633342", func := "dustpan/dustpanlaw16.TraceMarks", spec := "traceMarks", unfollowed := true, recurses := true, named := ["dustpan/config.limits", "dustpan/class.sizes", "math/bits.deBruijn64tab"], apart := false, laid := [("math/bits.deBruijn64tab", laid_math_bits_deBruijn64tab), ("dustpan/config.limits", laid_dustpan_config_limits), ("dustpan/class.sizes", laid_dustpan_class_sizes)], narrowed := true }
def TraceMarksUptoSaid : Prop := traceMarksUptoRow.holds Tryz.pinned (OpenSpec.upto traceMarksSpec)

/-- 'dustpanlaw16.TraceRooms', WHERE WHAT IT READS IS OF BULK AT MOST 1048576: true; the input reads as it did. -/
def traceRoomsUptoRow : OpenClaim := { program := "ytnobempbcdkoaaagreatdoor", sum := "c7c9967d7d5f3df4f9f7875184a4160ece7e3857a2932f8e95e29dfeda633342", func := "dustpan/dustpanlaw16.TraceRooms", spec := "traceRooms", unfollowed := true, recurses := true, named := ["dustpan/config.limits", "dustpan/class.sizes", "math/bits.deBruijn64tab"], apart := false, laid := [("math/bits.deBruijn64tab", laid_math_bits_deBruijn64tab), ("dustpan/config.limits", laid_dustpan_config_limits), ("dustpan/class.sizes", laid_dustpan_class_sizes)], narrowed := true }
def TraceRoomsUptoSaid : Prop := traceRoomsUptoRow.holds Tryz.pinned (OpenSpec.upto traceRoomsSpec)

/-- 'dustpanlaw16.TraceNone', WHERE WHAT IT READS IS OF BULK AT MOST 1048576: true; the input reads as it did. -/
def traceNoneUptoRow : OpenClaim := { program := "ytnobempbcdkoaaagreatdoor", sum := "c7c9967d7d5f3df4f9f7875184a4160ece7e3857a2932f8e95e29dfeda633342", func := "dustpan/dustpanlaw16.TraceNone", spec := "traceNone", unfollowed := true, recurses := true, named := ["math/bits.deBruijn64tab", "dustpan/config.limits", "dustpan/class.sizes"], apart := false, laid := [("math/bits.deBruijn64tab", laid_math_bits_deBruijn64tab), ("dustpan/config.limits", laid_dustpan_config_limits), ("dustpan/class.sizes", laid_dustpan_class_sizes)], narrowed := true }
def TraceNoneUptoSaid : Prop := traceNoneUptoRow.holds Tryz.pinned (OpenSpec.upto traceNoneSpec)

end Rows
end Go.Proofs.YtnobempbcdkoaaaGreatDoor
