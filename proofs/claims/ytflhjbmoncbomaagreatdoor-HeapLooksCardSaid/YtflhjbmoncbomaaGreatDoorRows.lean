/-
  NARROWER THAN 'FOR EVERY INPUT', by the rows' own cells (each row's printed sentence says how): HeapLooks: laid · SweepNone: laid · HeapParts: laid · HeapPlays: laid · HeapNone: laid · SweepTwice: laid · SweepSteps: laid · SweepBlocks: laid · SweepAll: laid.
  DERIVED. THE GIVEN ROWS OF THIS SEAT. 9 by the template 'for every input the law returns true; each argument reads behind the call as it read before'; 0 by the template 'total and deterministic' (their statements: YtflhjbmoncbomaaGreatDoorTotals.lean).
  GIVEN WITH THE SEED: the statements are not yours to turn. If you find one false, say at which input.
  Laid BY PROGRAM, IN A SANDBOX (cutbox-rows.mjs): the forced cells as the released guide's own fill.sh prints them over the translation 1fd810153f97001f… (all of the seat's roots in one cut). By AI agents, Wed Nov 11 2026. No macro, syntax, notation, axiom, sorry.
-/
import Derived.Test.YtflhjbmoncbomaaGreatDoorChecked
import GoSem.Claim
import GoSem.ClaimJoined
import GoSem.ClaimMapViews
import Derived.JoinedTies
import Derived.KernelRfl
namespace Go.Proofs.YtflhjbmoncbomaaGreatDoor
/- THE CELL 'sum', in the pinned program and in every row, IS THE sha256 OF THE DUMP (.gsa) THAT YtflhjbmoncbomaaGreatDoorProg.lean LOADS. Nothing in Lean hashes anything: it is a label: what it is worth is what the hold of that sum in a sandbox is worth. -/
noncomputable def Tryz.pinned : Pinned := { name := "ytflhjbmoncbomaagreatdoor", sum := "1fd810153f97001ff4a373fc9369ed2701b0676468b4cd5e8577b44cc648df82", checked := Tryz.checked }
namespace Rows
def none {H : Type} : Left H := { results := [], args := [] }

/- WHAT THE LISTED PACKAGE-LEVEL VARIABLES READ AS WHEN THE CALL BEGINS. Each datum BY PROGRAM (the guide's laid-datum.mjs) off the statement by which the dump's own 'gosem.cut.vars' lays the variable. In a bare row this is a premise. The card (YtflhjbmoncbomaaGreatDoorCards.lean) ties it to the program's text. -/
def laid_dustpan_config_limits {H : Type} : DataW H := .agg [.agg [.lit (.int .i64 1), .lit (.int .i64 4096)], .agg [.lit (.int .i64 16), .lit (.int .i64 256)], .agg [.lit (.int .i64 1), .lit (.int .i64 8)], .agg [.lit (.int .i64 1), .lit (.int .i64 64)], .agg [.lit (.int .i64 0), .lit (.int .i64 64)], .agg [.lit (.int .i64 1), .lit (.int .i64 256)], .agg [.lit (.int .i64 1), .lit (.int .i64 4096)]]
def laid_dustpan_class_sizes {H : Type} : DataW H := .agg [.lit (.int .i64 2), .lit (.int .i64 4), .lit (.int .i64 8), .lit (.int .i64 16)]
def laid_math_bits_deBruijn64tab {H : Type} : DataW H := .agg [.lit (.int .u8 0), .lit (.int .u8 1), .lit (.int .u8 56), .lit (.int .u8 2), .lit (.int .u8 57), .lit (.int .u8 49), .lit (.int .u8 28), .lit (.int .u8 3), .lit (.int .u8 61), .lit (.int .u8 58), .lit (.int .u8 42), .lit (.int .u8 50), .lit (.int .u8 38), .lit (.int .u8 29), .lit (.int .u8 17), .lit (.int .u8 4), .lit (.int .u8 62), .lit (.int .u8 47), .lit (.int .u8 59), .lit (.int .u8 36), .lit (.int .u8 45), .lit (.int .u8 43), .lit (.int .u8 51), .lit (.int .u8 22), .lit (.int .u8 53), .lit (.int .u8 39), .lit (.int .u8 33), .lit (.int .u8 30), .lit (.int .u8 24), .lit (.int .u8 18), .lit (.int .u8 12), .lit (.int .u8 5), .lit (.int .u8 63), .lit (.int .u8 55), .lit (.int .u8 48), .lit (.int .u8 27), .lit (.int .u8 60), .lit (.int .u8 41), .lit (.int .u8 37), .lit (.int .u8 16), .lit (.int .u8 46), .lit (.int .u8 35), .lit (.int .u8 44), .lit (.int .u8 21), .lit (.int .u8 52), .lit (.int .u8 32), .lit (.int .u8 23), .lit (.int .u8 11), .lit (.int .u8 54), .lit (.int .u8 26), .lit (.int .u8 40), .lit (.int .u8 15), .lit (.int .u8 34), .lit (.int .u8 20), .lit (.int .u8 31), .lit (.int .u8 10), .lit (.int .u8 25), .lit (.int .u8 14), .lit (.int .u8 19), .lit (.int .u8 9), .lit (.int .u8 13), .lit (.int .u8 8), .lit (.int .u8 7), .lit (.int .u8 6)]

/-- 'dustpanlaw11.HeapLooks': WHATEVER THE INPUT: true; the input reads as it did. -/
def heapLooksSpec : ChangeSpec := { name := "heapLooks", fn := fun _ => fun
  | [d1, d2, d3] => { results := [.lit (.bool true)], args := [d1, d2, d3] }
  | _ => none }
def heapLooksRow : OpenClaim := { program := "ytflhjbmoncbomaagreatdoor", sum := "1fd810153f97001ff4a373fc9369ed2701b0676468b4cd5e8577b44cc648df82", func := "dustpan/dustpanlaw11.HeapLooks", spec := "heapLooks", unfollowed := true, recurses := true, named := ["dustpan/config.limits", "dustpan/class.sizes"], apart := false, laid := [("dustpan/config.limits", laid_dustpan_config_limits), ("dustpan/class.sizes", laid_dustpan_class_sizes)] }
def HeapLooksSaid : Prop := heapLooksRow.holds Tryz.pinned (OpenSpec.ofChange heapLooksSpec)

/-- ITS FALSE NEIGHBOUR: 'it returns false'. Refute it at one input. -/
def heapLooksWrong : ChangeSpec := { name := "heapLooks", fn := fun _ => fun
  | [d1, d2, d3] => { results := [.lit (.bool false)], args := [d1, d2, d3] }
  | _ => none }
def HeapLooksWrongFalsely : Prop := heapLooksRow.holds Tryz.pinned (OpenSpec.ofChange heapLooksWrong)

/-- 'dustpanlaw15.SweepNone': WHATEVER THE INPUT: true; the input reads as it did. -/
def sweepNoneSpec : ChangeSpec := { name := "sweepNone", fn := fun _ => fun
  | [d1, d2] => { results := [.lit (.bool true)], args := [d1, d2] }
  | _ => none }
def sweepNoneRow : OpenClaim := { program := "ytflhjbmoncbomaagreatdoor", sum := "1fd810153f97001ff4a373fc9369ed2701b0676468b4cd5e8577b44cc648df82", func := "dustpan/dustpanlaw15.SweepNone", spec := "sweepNone", unfollowed := true, recurses := true, named := ["dustpan/class.sizes", "dustpan/config.limits"], apart := false, laid := [("dustpan/config.limits", laid_dustpan_config_limits), ("dustpan/class.sizes", laid_dustpan_class_sizes)] }
def SweepNoneSaid : Prop := sweepNoneRow.holds Tryz.pinned (OpenSpec.ofChange sweepNoneSpec)

/-- ITS FALSE NEIGHBOUR: 'it returns false'. Refute it at one input. -/
def sweepNoneWrong : ChangeSpec := { name := "sweepNone", fn := fun _ => fun
  | [d1, d2] => { results := [.lit (.bool false)], args := [d1, d2] }
  | _ => none }
def SweepNoneWrongFalsely : Prop := sweepNoneRow.holds Tryz.pinned (OpenSpec.ofChange sweepNoneWrong)

/-- 'dustpanlaw11.HeapParts': WHATEVER THE INPUT: true; the input reads as it did. -/
def heapPartsSpec : ChangeSpec := { name := "heapParts", fn := fun _ => fun
  | [d1, d2] => { results := [.lit (.bool true)], args := [d1, d2] }
  | _ => none }
def heapPartsRow : OpenClaim := { program := "ytflhjbmoncbomaagreatdoor", sum := "1fd810153f97001ff4a373fc9369ed2701b0676468b4cd5e8577b44cc648df82", func := "dustpan/dustpanlaw11.HeapParts", spec := "heapParts", unfollowed := true, recurses := true, named := ["dustpan/config.limits", "dustpan/class.sizes", "math/bits.deBruijn64tab"], apart := false, laid := [("math/bits.deBruijn64tab", laid_math_bits_deBruijn64tab), ("dustpan/config.limits", laid_dustpan_config_limits), ("dustpan/class.sizes", laid_dustpan_class_sizes)] }
def HeapPartsSaid : Prop := heapPartsRow.holds Tryz.pinned (OpenSpec.ofChange heapPartsSpec)

/-- ITS FALSE NEIGHBOUR: 'it returns false'. Refute it at one input. -/
def heapPartsWrong : ChangeSpec := { name := "heapParts", fn := fun _ => fun
  | [d1, d2] => { results := [.lit (.bool false)], args := [d1, d2] }
  | _ => none }
def HeapPartsWrongFalsely : Prop := heapPartsRow.holds Tryz.pinned (OpenSpec.ofChange heapPartsWrong)

/-- 'dustpanlaw11.HeapPlays': WHATEVER THE INPUT: true; the input reads as it did. -/
def heapPlaysSpec : ChangeSpec := { name := "heapPlays", fn := fun _ => fun
  | [d1, d2] => { results := [.lit (.bool true)], args := [d1, d2] }
  | _ => none }
def heapPlaysRow : OpenClaim := { program := "ytflhjbmoncbomaagreatdoor", sum := "1fd810153f97001ff4a373fc9369ed2701b0676468b4cd5e8577b44cc648df82", func := "dustpan/dustpanlaw11.HeapPlays", spec := "heapPlays", unfollowed := true, recurses := true, named := ["dustpan/config.limits", "dustpan/class.sizes", "math/bits.deBruijn64tab"], apart := false, laid := [("math/bits.deBruijn64tab", laid_math_bits_deBruijn64tab), ("dustpan/config.limits", laid_dustpan_config_limits), ("dustpan/class.sizes", laid_dustpan_class_sizes)] }
def HeapPlaysSaid : Prop := heapPlaysRow.holds Tryz.pinned (OpenSpec.ofChange heapPlaysSpec)

/-- ITS FALSE NEIGHBOUR: 'it returns false'. Refute it at one input. -/
def heapPlaysWrong : ChangeSpec := { name := "heapPlays", fn := fun _ => fun
  | [d1, d2] => { results := [.lit (.bool false)], args := [d1, d2] }
  | _ => none }
def HeapPlaysWrongFalsely : Prop := heapPlaysRow.holds Tryz.pinned (OpenSpec.ofChange heapPlaysWrong)

/-- 'dustpanlaw11.HeapNone': WHATEVER THE INPUT: true; the input reads as it did. -/
def heapNoneSpec : ChangeSpec := { name := "heapNone", fn := fun _ => fun
  | [d1, d2, d3] => { results := [.lit (.bool true)], args := [d1, d2, d3] }
  | _ => none }
def heapNoneRow : OpenClaim := { program := "ytflhjbmoncbomaagreatdoor", sum := "1fd810153f97001ff4a373fc9369ed2701b0676468b4cd5e8577b44cc648df82", func := "dustpan/dustpanlaw11.HeapNone", spec := "heapNone", unfollowed := true, recurses := true, named := ["dustpan/config.limits", "dustpan/class.sizes", "math/bits.deBruijn64tab"], apart := false, laid := [("math/bits.deBruijn64tab", laid_math_bits_deBruijn64tab), ("dustpan/config.limits", laid_dustpan_config_limits), ("dustpan/class.sizes", laid_dustpan_class_sizes)] }
def HeapNoneSaid : Prop := heapNoneRow.holds Tryz.pinned (OpenSpec.ofChange heapNoneSpec)

/-- ITS FALSE NEIGHBOUR: 'it returns false'. Refute it at one input. -/
def heapNoneWrong : ChangeSpec := { name := "heapNone", fn := fun _ => fun
  | [d1, d2, d3] => { results := [.lit (.bool false)], args := [d1, d2, d3] }
  | _ => none }
def HeapNoneWrongFalsely : Prop := heapNoneRow.holds Tryz.pinned (OpenSpec.ofChange heapNoneWrong)

/-- 'dustpanlaw15.SweepTwice': WHATEVER THE INPUT: true; the input reads as it did. -/
def sweepTwiceSpec : ChangeSpec := { name := "sweepTwice", fn := fun _ => fun
  | [d1, d2, d3] => { results := [.lit (.bool true)], args := [d1, d2, d3] }
  | _ => none }
def sweepTwiceRow : OpenClaim := { program := "ytflhjbmoncbomaagreatdoor", sum := "1fd810153f97001ff4a373fc9369ed2701b0676468b4cd5e8577b44cc648df82", func := "dustpan/dustpanlaw15.SweepTwice", spec := "sweepTwice", unfollowed := true, recurses := true, named := ["dustpan/config.limits", "dustpan/class.sizes", "math/bits.deBruijn64tab"], apart := false, laid := [("math/bits.deBruijn64tab", laid_math_bits_deBruijn64tab), ("dustpan/config.limits", laid_dustpan_config_limits), ("dustpan/class.sizes", laid_dustpan_class_sizes)] }
def SweepTwiceSaid : Prop := sweepTwiceRow.holds Tryz.pinned (OpenSpec.ofChange sweepTwiceSpec)

/-- ITS FALSE NEIGHBOUR: 'it returns false'. Refute it at one input. -/
def sweepTwiceWrong : ChangeSpec := { name := "sweepTwice", fn := fun _ => fun
  | [d1, d2, d3] => { results := [.lit (.bool false)], args := [d1, d2, d3] }
  | _ => none }
def SweepTwiceWrongFalsely : Prop := sweepTwiceRow.holds Tryz.pinned (OpenSpec.ofChange sweepTwiceWrong)

/-- 'dustpanlaw15.SweepSteps': WHATEVER THE INPUT: true; the input reads as it did. -/
def sweepStepsSpec : ChangeSpec := { name := "sweepSteps", fn := fun _ => fun
  | [d1, d2, d3] => { results := [.lit (.bool true)], args := [d1, d2, d3] }
  | _ => none }
def sweepStepsRow : OpenClaim := { program := "ytflhjbmoncbomaagreatdoor", sum := "1fd810153f97001ff4a373fc9369ed2701b0676468b4cd5e8577b44cc648df82", func := "dustpan/dustpanlaw15.SweepSteps", spec := "sweepSteps", unfollowed := true, recurses := true, named := ["dustpan/config.limits", "dustpan/class.sizes", "math/bits.deBruijn64tab"], apart := false, laid := [("math/bits.deBruijn64tab", laid_math_bits_deBruijn64tab), ("dustpan/config.limits", laid_dustpan_config_limits), ("dustpan/class.sizes", laid_dustpan_class_sizes)] }
def SweepStepsSaid : Prop := sweepStepsRow.holds Tryz.pinned (OpenSpec.ofChange sweepStepsSpec)

/-- ITS FALSE NEIGHBOUR: 'it returns false'. Refute it at one input. -/
def sweepStepsWrong : ChangeSpec := { name := "sweepSteps", fn := fun _ => fun
  | [d1, d2, d3] => { results := [.lit (.bool false)], args := [d1, d2, d3] }
  | _ => none }
def SweepStepsWrongFalsely : Prop := sweepStepsRow.holds Tryz.pinned (OpenSpec.ofChange sweepStepsWrong)

/-- 'dustpanlaw15.SweepBlocks': WHATEVER THE INPUT: true; the input reads as it did. -/
def sweepBlocksSpec : ChangeSpec := { name := "sweepBlocks", fn := fun _ => fun
  | [d1, d2, d3] => { results := [.lit (.bool true)], args := [d1, d2, d3] }
  | _ => none }
def sweepBlocksRow : OpenClaim := { program := "ytflhjbmoncbomaagreatdoor", sum := "1fd810153f97001ff4a373fc9369ed2701b0676468b4cd5e8577b44cc648df82", func := "dustpan/dustpanlaw15.SweepBlocks", spec := "sweepBlocks", unfollowed := true, recurses := true, named := ["dustpan/config.limits", "dustpan/class.sizes", "math/bits.deBruijn64tab"], apart := false, laid := [("math/bits.deBruijn64tab", laid_math_bits_deBruijn64tab), ("dustpan/config.limits", laid_dustpan_config_limits), ("dustpan/class.sizes", laid_dustpan_class_sizes)] }
def SweepBlocksSaid : Prop := sweepBlocksRow.holds Tryz.pinned (OpenSpec.ofChange sweepBlocksSpec)

/-- ITS FALSE NEIGHBOUR: 'it returns false'. Refute it at one input. -/
def sweepBlocksWrong : ChangeSpec := { name := "sweepBlocks", fn := fun _ => fun
  | [d1, d2, d3] => { results := [.lit (.bool false)], args := [d1, d2, d3] }
  | _ => none }
def SweepBlocksWrongFalsely : Prop := sweepBlocksRow.holds Tryz.pinned (OpenSpec.ofChange sweepBlocksWrong)

/-- 'dustpanlaw15.SweepAll': WHATEVER THE INPUT: true; the input reads as it did. -/
def sweepAllSpec : ChangeSpec := { name := "sweepAll", fn := fun _ => fun
  | [d1, d2, d3] => { results := [.lit (.bool true)], args := [d1, d2, d3] }
  | _ => none }
def sweepAllRow : OpenClaim := { program := "ytflhjbmoncbomaagreatdoor", sum := "1fd810153f97001ff4a373fc9369ed2701b0676468b4cd5e8577b44cc648df82", func := "dustpan/dustpanlaw15.SweepAll", spec := "sweepAll", unfollowed := true, recurses := true, named := ["dustpan/config.limits", "dustpan/class.sizes", "math/bits.deBruijn64tab"], apart := false, laid := [("math/bits.deBruijn64tab", laid_math_bits_deBruijn64tab), ("dustpan/config.limits", laid_dustpan_config_limits), ("dustpan/class.sizes", laid_dustpan_class_sizes)] }
def SweepAllSaid : Prop := sweepAllRow.holds Tryz.pinned (OpenSpec.ofChange sweepAllSpec)

/-- ITS FALSE NEIGHBOUR: 'it returns false'. Refute it at one input. -/
def sweepAllWrong : ChangeSpec := { name := "sweepAll", fn := fun _ => fun
  | [d1, d2, d3] => { results := [.lit (.bool false)], args := [d1, d2, d3] }
  | _ => none }
def SweepAllWrongFalsely : Prop := sweepAllRow.holds Tryz.pinned (OpenSpec.ofChange sweepAllWrong)

/- THE SECOND FORM. 'bulk': how many values and letters a reading holds, each counted each time it is reached (what is shared counts as often as it is met; a slice's spare places count too). A statement '..UptoSaid' is the law's where the arguments, and the package variables that the reading takes, are together of bulk at most 1048576: NARROWER than '..Said'. Prove '..Said' where nothing that the law and all that it calls make is longer than what came in: it says more and counts as full. Else prove '..UptoSaid'. A law counts once. -/
mutual
def uptoBulk {H : Type} : DataW H → Nat
  | .lit (.string bytes) => bytes.length + 1
  | .lit _ => 1
  | .nil => 1
  | .ptr d => uptoBulk d + 1
  | .slice elems spare => uptoBulkAll elems + uptoBulkAll spare + 1
  | .agg parts => uptoBulkAll parts + 1
  | .iface _ d => uptoBulk d + 1
  | .map entries => uptoBulkEntries entries + 1
  | .held _ => 1
def uptoBulkAll {H : Type} : List (DataW H) → Nat
  | [] => 0
  | d :: r => uptoBulk d + uptoBulkAll r
def uptoBulkEntries {H : Type} : List (Lit × DataW H) → Nat
  | [] => 0
  | x :: r => uptoBulkEntry x + uptoBulkEntries r
def uptoBulkEntry {H : Type} : Lit × DataW H → Nat
  | (.string bytes, d) => bytes.length + uptoBulk d + 1
  | (_, d) => uptoBulk d + 1
 end
def uptoSmall : (H : Type) → List (DataW H) → Bool := fun _ ds => decide (uptoBulkAll ds ≤ 1048576)
def OpenSpec.upto (s : _root_.Go.ChangeSpec) : _root_.Go.OpenSpec := { _root_.Go.OpenSpec.ofChange s with cond := some uptoSmall }

/-- 'dustpanlaw11.HeapLooks', WHERE WHAT IT READS IS OF BULK AT MOST 1048576: true; the input reads as it did. -/
def heapLooksUptoRow : OpenClaim := { program := "ytflhjbmoncbomaagreatdoor", sum := "1fd810153f97001ff4a373fc9369ed2701b0676468b4cd5e8577b44cc648df82", func := "dustpan/dustpanlaw11.HeapLooks", spec := "heapLooks", unfollowed := true, recurses := true, named := ["dustpan/config.limits", "dustpan/class.sizes"], apart := false, laid := [("dustpan/config.limits", laid_dustpan_config_limits), ("dustpan/class.sizes", laid_dustpan_class_sizes)], narrowed := true }
def HeapLooksUptoSaid : Prop := heapLooksUptoRow.holds Tryz.pinned (OpenSpec.upto heapLooksSpec)

/-- 'dustpanlaw15.SweepNone', WHERE WHAT IT READS IS OF BULK AT MOST 1048576: true; the input reads as it did. -/
def sweepNoneUptoRow : OpenClaim := { program := "ytflhjbmoncbomaagreatdoor", sum := "1fd810153f97001ff4a373fc9369ed2701b0676468b4cd5e8577b44cc648df82", func := "dustpan/dustpanlaw15.SweepNone", spec := "sweepNone", unfollowed := true, recurses := true, named := ["dustpan/class.sizes", "dustpan/config.limits"], apart := false, laid := [("dustpan/config.limits", laid_dustpan_config_limits), ("dustpan/class.sizes", laid_dustpan_class_sizes)], narrowed := true }
def SweepNoneUptoSaid : Prop := sweepNoneUptoRow.holds Tryz.pinned (OpenSpec.upto sweepNoneSpec)

/-- 'dustpanlaw11.HeapParts', WHERE WHAT IT READS IS OF BULK AT MOST 1048576: true; the input reads as it did. -/
def heapPartsUptoRow : OpenClaim := { program := "ytflhjbmoncbomaagreatdoor", sum := "1fd810153f97001ff4a373fc9369ed2701b0676468b4cd5e8577b44cc648df82", func := "dustpan/dustpanlaw11.HeapParts", spec := "heapParts", unfollowed := true, recurses := true, named := ["dustpan/config.limits", "dustpan/class.sizes", "math/bits.deBruijn64tab"], apart := false, laid := [("math/bits.deBruijn64tab", laid_math_bits_deBruijn64tab), ("dustpan/config.limits", laid_dustpan_config_limits), ("dustpan/class.sizes", laid_dustpan_class_sizes)], narrowed := true }
def HeapPartsUptoSaid : Prop := heapPartsUptoRow.holds Tryz.pinned (OpenSpec.upto heapPartsSpec)

/-- 'dustpanlaw11.HeapPlays', WHERE WHAT IT READS IS OF BULK AT MOST 1048576: true; the input reads as it did. -/
def heapPlaysUptoRow : OpenClaim := { program := "ytflhjbmoncbomaagreatdoor", sum := "1fd810153f97001ff4a373fc9369ed2701b0676468b4cd5e8577b44cc648df82", func := "dustpan/dustpanlaw11.HeapPlays", spec := "heapPlays", unfollowed := true, recurses := true, named := ["dustpan/config.limits", "dustpan/class.sizes", "math/bits.deBruijn64tab"], apart := false, laid := [("math/bits.deBruijn64tab", laid_math_bits_deBruijn64tab), ("dustpan/config.limits", laid_dustpan_config_limits), ("dustpan/class.sizes", laid_dustpan_class_sizes)], narrowed := true }
def HeapPlaysUptoSaid : Prop := heapPlaysUptoRow.holds Tryz.pinned (OpenSpec.upto heapPlaysSpec)

/-- 'dustpanlaw11.HeapNone', WHERE WHAT IT READS IS OF BULK AT MOST 1048576: true; the input reads as it did. -/
def heapNoneUptoRow : OpenClaim := { program := "ytflhjbmoncbomaagreatdoor", sum := "1fd810153f97001ff4a373fc9369ed2701b0676468b4cd5e8577b44cc648df82", func := "dustpan/dustpanlaw11.HeapNone", spec := "heapNone", unfollowed := true, recurses := true, named := ["dustpan/config.limits", "dustpan/class.sizes", "math/bits.deBruijn64tab"], apart := false, laid := [("math/bits.deBruijn64tab", laid_math_bits_deBruijn64tab), ("dustpan/config.limits", laid_dustpan_config_limits), ("dustpan/class.sizes", laid_dustpan_class_sizes)], narrowed := true }
def HeapNoneUptoSaid : Prop := heapNoneUptoRow.holds Tryz.pinned (OpenSpec.upto heapNoneSpec)

/-- 'dustpanlaw15.SweepTwice', WHERE WHAT IT READS IS OF BULK AT MOST 1048576: true; the input reads as it did. -/
def sweepTwiceUptoRow : OpenClaim := { program := "ytflhjbmoncbomaagreatdoor", sum := "1fd810153f97001ff4a373fc9369ed2701b0676468b4cd5e8577b44cc648df82", func := "dustpan/dustpanlaw15.SweepTwice", spec := "sweepTwice", unfollowed := true, recurses := true, named := ["dustpan/config.limits", "dustpan/class.sizes", "math/bits.deBruijn64tab"], apart := false, laid := [("math/bits.deBruijn64tab", laid_math_bits_deBruijn64tab), ("dustpan/config.limits", laid_dustpan_config_limits), ("dustpan/class.sizes", laid_dustpan_class_sizes)], narrowed := true }
def SweepTwiceUptoSaid : Prop := sweepTwiceUptoRow.holds Tryz.pinned (OpenSpec.upto sweepTwiceSpec)

/-- 'dustpanlaw15.SweepSteps', WHERE WHAT IT READS IS OF BULK AT MOST 1048576: true; the input reads as it did. -/
def sweepStepsUptoRow : OpenClaim := { program := "ytflhjbmoncbomaagreatdoor", sum := "1fd810153f97001ff4a373fc9369ed2701b0676468b4cd5e8577b44cc648df82", func := "dustpan/dustpanlaw15.SweepSteps", spec := "sweepSteps", unfollowed := true, recurses := true, named := ["dustpan/config.limits", "dustpan/class.sizes", "math/bits.deBruijn64tab"], apart := false, laid := [("math/bits.deBruijn64tab", laid_math_bits_deBruijn64tab), ("dustpan/config.limits", laid_dustpan_config_limits), ("dustpan/class.sizes", laid_dustpan_class_sizes)], narrowed := true }
def SweepStepsUptoSaid : Prop := sweepStepsUptoRow.holds Tryz.pinned (OpenSpec.upto sweepStepsSpec)

/-- 'dustpanlaw15.SweepBlocks', WHERE WHAT IT READS IS OF BULK AT MOST 1048576: true; the input reads as it did. -/
def sweepBlocksUptoRow : OpenClaim := { program := "ytflhjbmoncbomaagreatdoor", sum := "1fd810153f97001ff4a373fc9369ed2701b0676468b4cd5e8577b44cc648df82", func := "dustpan/dustpanlaw15.SweepBlocks", spec := "sweepBlocks", unfollowed := true, recurses := true, named := ["dustpan/config.limits", "dustpan/class.sizes", "math/bits.deBruijn64tab"], apart := false, laid := [("math/bits.deBruijn64tab", laid_math_bits_deBruijn64tab), ("dustpan/config.limits", laid_dustpan_config_limits), ("dustpan/class.sizes", laid_dustpan_class_sizes)], narrowed := true }
def SweepBlocksUptoSaid : Prop := sweepBlocksUptoRow.holds Tryz.pinned (OpenSpec.upto sweepBlocksSpec)

/-- 'dustpanlaw15.SweepAll', WHERE WHAT IT READS IS OF BULK AT MOST 1048576: true; the input reads as it did. -/
def sweepAllUptoRow : OpenClaim := { program := "ytflhjbmoncbomaagreatdoor", sum := "1fd810153f97001ff4a373fc9369ed2701b0676468b4cd5e8577b44cc648df82", func := "dustpan/dustpanlaw15.SweepAll", spec := "sweepAll", unfollowed := true, recurses := true, named := ["dustpan/config.limits", "dustpan/class.sizes", "math/bits.deBruijn64tab"], apart := false, laid := [("math/bits.deBruijn64tab", laid_math_bits_deBruijn64tab), ("dustpan/config.limits", laid_dustpan_config_limits), ("dustpan/class.sizes", laid_dustpan_class_sizes)], narrowed := true }
def SweepAllUptoSaid : Prop := sweepAllUptoRow.holds Tryz.pinned (OpenSpec.upto sweepAllSpec)

end Rows
end Go.Proofs.YtflhjbmoncbomaaGreatDoor
