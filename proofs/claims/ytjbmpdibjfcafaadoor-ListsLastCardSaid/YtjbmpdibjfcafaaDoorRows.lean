/-
  NARROWER THAN 'FOR EVERY INPUT', by the rows' own cells (each row's printed sentence says how): BitsSames: laid · BitsPlay: laid · BitsRises: laid · BlockCopies: laid · BitsCopies: laid · BitsNone: laid · BlockSlots: laid · BlockPlays: laid · BlockNone: laid · ListsPlay: laid · ListsNone: laid · ListsLast: laid.
  DERIVED. THE GIVEN ROWS OF THIS SEAT. 12 by the template 'for every input the law returns true; each argument reads behind the call as it read before'; 0 by the template 'total and deterministic' (their statements: YtjbmpdibjfcafaaDoorTotals.lean).
  GIVEN WITH THE SEED: the statements are not yours to turn. If you find one false, say at which input.
  Laid BY PROGRAM, IN A SANDBOX (cutbox-rows.mjs): the forced cells as the released guide's own fill.sh prints them over the translation d842b1c006b41672… (all of the seat's roots in one cut). By AI agents, Wed Nov 11 2026. No macro, syntax, notation, axiom, sorry.
-/
import Derived.Test.YtjbmpdibjfcafaaDoorChecked
import GoSem.Claim
import GoSem.ClaimJoined
import GoSem.ClaimMapViews
import Derived.JoinedTies
import Derived.KernelRfl
namespace Go.Proofs.YtjbmpdibjfcafaaDoor
/- THE CELL 'sum', in the pinned program and in every row, IS THE sha256 OF THE DUMP (.gsa) THAT YtjbmpdibjfcafaaDoorProg.lean LOADS. Nothing in Lean hashes anything: it is a label: what it is worth is what the hold of that sum in a sandbox is worth. -/
noncomputable def Tryd.pinned : Pinned := { name := "ytjbmpdibjfcafaadoor", sum := "d842b1c006b41672e97492d1d2ed2a82502caaa4477d4d37746f3ee5d225b540", checked := Tryd.checked }
namespace Rows
def none {H : Type} : Left H := { results := [], args := [] }

/- WHAT THE LISTED PACKAGE-LEVEL VARIABLES READ AS WHEN THE CALL BEGINS. Each datum BY PROGRAM (the guide's laid-datum.mjs) off the statement by which the dump's own 'gosem.cut.vars' lays the variable. In a bare row this is a premise. The card (YtjbmpdibjfcafaaDoorCards.lean) ties it to the program's text. -/
def laid_math_bits_deBruijn64tab {H : Type} : DataW H := .agg [.lit (.int .u8 0), .lit (.int .u8 1), .lit (.int .u8 56), .lit (.int .u8 2), .lit (.int .u8 57), .lit (.int .u8 49), .lit (.int .u8 28), .lit (.int .u8 3), .lit (.int .u8 61), .lit (.int .u8 58), .lit (.int .u8 42), .lit (.int .u8 50), .lit (.int .u8 38), .lit (.int .u8 29), .lit (.int .u8 17), .lit (.int .u8 4), .lit (.int .u8 62), .lit (.int .u8 47), .lit (.int .u8 59), .lit (.int .u8 36), .lit (.int .u8 45), .lit (.int .u8 43), .lit (.int .u8 51), .lit (.int .u8 22), .lit (.int .u8 53), .lit (.int .u8 39), .lit (.int .u8 33), .lit (.int .u8 30), .lit (.int .u8 24), .lit (.int .u8 18), .lit (.int .u8 12), .lit (.int .u8 5), .lit (.int .u8 63), .lit (.int .u8 55), .lit (.int .u8 48), .lit (.int .u8 27), .lit (.int .u8 60), .lit (.int .u8 41), .lit (.int .u8 37), .lit (.int .u8 16), .lit (.int .u8 46), .lit (.int .u8 35), .lit (.int .u8 44), .lit (.int .u8 21), .lit (.int .u8 52), .lit (.int .u8 32), .lit (.int .u8 23), .lit (.int .u8 11), .lit (.int .u8 54), .lit (.int .u8 26), .lit (.int .u8 40), .lit (.int .u8 15), .lit (.int .u8 34), .lit (.int .u8 20), .lit (.int .u8 31), .lit (.int .u8 10), .lit (.int .u8 25), .lit (.int .u8 14), .lit (.int .u8 19), .lit (.int .u8 9), .lit (.int .u8 13), .lit (.int .u8 8), .lit (.int .u8 7), .lit (.int .u8 6)]
def laid_dustpan_config_limits {H : Type} : DataW H := .agg [.agg [.lit (.int .i64 1), .lit (.int .i64 4096)], .agg [.lit (.int .i64 16), .lit (.int .i64 256)], .agg [.lit (.int .i64 1), .lit (.int .i64 8)], .agg [.lit (.int .i64 1), .lit (.int .i64 64)], .agg [.lit (.int .i64 0), .lit (.int .i64 64)], .agg [.lit (.int .i64 1), .lit (.int .i64 256)], .agg [.lit (.int .i64 1), .lit (.int .i64 4096)]]
def laid_dustpan_class_sizes {H : Type} : DataW H := .agg [.lit (.int .i64 2), .lit (.int .i64 4), .lit (.int .i64 8), .lit (.int .i64 16)]

/-- 'dustpanlaw01.BitsSames': WHATEVER THE INPUT: true; the input reads as it did. -/
def bitsSamesSpec : ChangeSpec := { name := "bitsSames", fn := fun _ => fun
  | [d1, d2, d3] => { results := [.lit (.bool true)], args := [d1, d2, d3] }
  | _ => none }
def bitsSamesRow : OpenClaim := { program := "ytjbmpdibjfcafaadoor", sum := "d842b1c006b41672e97492d1d2ed2a82502caaa4477d4d37746f3ee5d225b540", func := "dustpan/dustpanlaw01.BitsSames", spec := "bitsSames", named := ["math/bits.deBruijn64tab"], apart := false, laid := [("math/bits.deBruijn64tab", laid_math_bits_deBruijn64tab)] }
def BitsSamesSaid : Prop := bitsSamesRow.holds Tryd.pinned (OpenSpec.ofChange bitsSamesSpec)

/-- ITS FALSE NEIGHBOUR: 'it returns false'. Refute it at one input. -/
def bitsSamesWrong : ChangeSpec := { name := "bitsSames", fn := fun _ => fun
  | [d1, d2, d3] => { results := [.lit (.bool false)], args := [d1, d2, d3] }
  | _ => none }
def BitsSamesWrongFalsely : Prop := bitsSamesRow.holds Tryd.pinned (OpenSpec.ofChange bitsSamesWrong)

/-- 'dustpanlaw01.BitsPlay': WHATEVER THE INPUT: true; the input reads as it did. -/
def bitsPlaySpec : ChangeSpec := { name := "bitsPlay", fn := fun _ => fun
  | [d1, d2, d3] => { results := [.lit (.bool true)], args := [d1, d2, d3] }
  | _ => none }
def bitsPlayRow : OpenClaim := { program := "ytjbmpdibjfcafaadoor", sum := "d842b1c006b41672e97492d1d2ed2a82502caaa4477d4d37746f3ee5d225b540", func := "dustpan/dustpanlaw01.BitsPlay", spec := "bitsPlay", unfollowed := true, recurses := true, named := ["math/bits.deBruijn64tab"], apart := false, laid := [("math/bits.deBruijn64tab", laid_math_bits_deBruijn64tab)] }
def BitsPlaySaid : Prop := bitsPlayRow.holds Tryd.pinned (OpenSpec.ofChange bitsPlaySpec)

/-- ITS FALSE NEIGHBOUR: 'it returns false'. Refute it at one input. -/
def bitsPlayWrong : ChangeSpec := { name := "bitsPlay", fn := fun _ => fun
  | [d1, d2, d3] => { results := [.lit (.bool false)], args := [d1, d2, d3] }
  | _ => none }
def BitsPlayWrongFalsely : Prop := bitsPlayRow.holds Tryd.pinned (OpenSpec.ofChange bitsPlayWrong)

/-- 'dustpanlaw01.BitsRises': WHATEVER THE INPUT: true; the input reads as it did. -/
def bitsRisesSpec : ChangeSpec := { name := "bitsRises", fn := fun _ => fun
  | [d1, d2, d3] => { results := [.lit (.bool true)], args := [d1, d2, d3] }
  | _ => none }
def bitsRisesRow : OpenClaim := { program := "ytjbmpdibjfcafaadoor", sum := "d842b1c006b41672e97492d1d2ed2a82502caaa4477d4d37746f3ee5d225b540", func := "dustpan/dustpanlaw01.BitsRises", spec := "bitsRises", unfollowed := true, recurses := true, named := ["math/bits.deBruijn64tab"], apart := false, laid := [("math/bits.deBruijn64tab", laid_math_bits_deBruijn64tab)] }
def BitsRisesSaid : Prop := bitsRisesRow.holds Tryd.pinned (OpenSpec.ofChange bitsRisesSpec)

/-- ITS FALSE NEIGHBOUR: 'it returns false'. Refute it at one input. -/
def bitsRisesWrong : ChangeSpec := { name := "bitsRises", fn := fun _ => fun
  | [d1, d2, d3] => { results := [.lit (.bool false)], args := [d1, d2, d3] }
  | _ => none }
def BitsRisesWrongFalsely : Prop := bitsRisesRow.holds Tryd.pinned (OpenSpec.ofChange bitsRisesWrong)

/-- 'dustpanlaw07.BlockCopies': WHATEVER THE INPUT: true; the input reads as it did. -/
def blockCopiesSpec : ChangeSpec := { name := "blockCopies", fn := fun _ => fun
  | [d1, d2, d3] => { results := [.lit (.bool true)], args := [d1, d2, d3] }
  | _ => none }
def blockCopiesRow : OpenClaim := { program := "ytjbmpdibjfcafaadoor", sum := "d842b1c006b41672e97492d1d2ed2a82502caaa4477d4d37746f3ee5d225b540", func := "dustpan/dustpanlaw07.BlockCopies", spec := "blockCopies", unfollowed := true, recurses := true, named := ["dustpan/config.limits", "dustpan/class.sizes"], apart := false, laid := [("dustpan/config.limits", laid_dustpan_config_limits), ("dustpan/class.sizes", laid_dustpan_class_sizes)] }
def BlockCopiesSaid : Prop := blockCopiesRow.holds Tryd.pinned (OpenSpec.ofChange blockCopiesSpec)

/-- ITS FALSE NEIGHBOUR: 'it returns false'. Refute it at one input. -/
def blockCopiesWrong : ChangeSpec := { name := "blockCopies", fn := fun _ => fun
  | [d1, d2, d3] => { results := [.lit (.bool false)], args := [d1, d2, d3] }
  | _ => none }
def BlockCopiesWrongFalsely : Prop := blockCopiesRow.holds Tryd.pinned (OpenSpec.ofChange blockCopiesWrong)

/-- 'dustpanlaw01.BitsCopies': WHATEVER THE INPUT: true; the input reads as it did. -/
def bitsCopiesSpec : ChangeSpec := { name := "bitsCopies", fn := fun _ => fun
  | [d1, d2, d3] => { results := [.lit (.bool true)], args := [d1, d2, d3] }
  | _ => none }
def bitsCopiesRow : OpenClaim := { program := "ytjbmpdibjfcafaadoor", sum := "d842b1c006b41672e97492d1d2ed2a82502caaa4477d4d37746f3ee5d225b540", func := "dustpan/dustpanlaw01.BitsCopies", spec := "bitsCopies", unfollowed := true, recurses := true, named := ["math/bits.deBruijn64tab"], apart := false, laid := [("math/bits.deBruijn64tab", laid_math_bits_deBruijn64tab)] }
def BitsCopiesSaid : Prop := bitsCopiesRow.holds Tryd.pinned (OpenSpec.ofChange bitsCopiesSpec)

/-- ITS FALSE NEIGHBOUR: 'it returns false'. Refute it at one input. -/
def bitsCopiesWrong : ChangeSpec := { name := "bitsCopies", fn := fun _ => fun
  | [d1, d2, d3] => { results := [.lit (.bool false)], args := [d1, d2, d3] }
  | _ => none }
def BitsCopiesWrongFalsely : Prop := bitsCopiesRow.holds Tryd.pinned (OpenSpec.ofChange bitsCopiesWrong)

/-- 'dustpanlaw01.BitsNone': WHATEVER THE INPUT: true; the input reads as it did. -/
def bitsNoneSpec : ChangeSpec := { name := "bitsNone", fn := fun _ => fun
  | [d1, d2] => { results := [.lit (.bool true)], args := [d1, d2] }
  | _ => none }
def bitsNoneRow : OpenClaim := { program := "ytjbmpdibjfcafaadoor", sum := "d842b1c006b41672e97492d1d2ed2a82502caaa4477d4d37746f3ee5d225b540", func := "dustpan/dustpanlaw01.BitsNone", spec := "bitsNone", unfollowed := true, recurses := true, named := ["math/bits.deBruijn64tab"], apart := false, laid := [("math/bits.deBruijn64tab", laid_math_bits_deBruijn64tab)] }
def BitsNoneSaid : Prop := bitsNoneRow.holds Tryd.pinned (OpenSpec.ofChange bitsNoneSpec)

/-- ITS FALSE NEIGHBOUR: 'it returns false'. Refute it at one input. -/
def bitsNoneWrong : ChangeSpec := { name := "bitsNone", fn := fun _ => fun
  | [d1, d2] => { results := [.lit (.bool false)], args := [d1, d2] }
  | _ => none }
def BitsNoneWrongFalsely : Prop := bitsNoneRow.holds Tryd.pinned (OpenSpec.ofChange bitsNoneWrong)

/-- 'dustpanlaw07.BlockSlots': WHATEVER THE INPUT: true; the input reads as it did. -/
def blockSlotsSpec : ChangeSpec := { name := "blockSlots", fn := fun _ => fun
  | [d1, d2] => { results := [.lit (.bool true)], args := [d1, d2] }
  | _ => none }
def blockSlotsRow : OpenClaim := { program := "ytjbmpdibjfcafaadoor", sum := "d842b1c006b41672e97492d1d2ed2a82502caaa4477d4d37746f3ee5d225b540", func := "dustpan/dustpanlaw07.BlockSlots", spec := "blockSlots", unfollowed := true, recurses := true, named := ["dustpan/config.limits", "dustpan/class.sizes"], apart := false, laid := [("dustpan/config.limits", laid_dustpan_config_limits), ("dustpan/class.sizes", laid_dustpan_class_sizes)] }
def BlockSlotsSaid : Prop := blockSlotsRow.holds Tryd.pinned (OpenSpec.ofChange blockSlotsSpec)

/-- ITS FALSE NEIGHBOUR: 'it returns false'. Refute it at one input. -/
def blockSlotsWrong : ChangeSpec := { name := "blockSlots", fn := fun _ => fun
  | [d1, d2] => { results := [.lit (.bool false)], args := [d1, d2] }
  | _ => none }
def BlockSlotsWrongFalsely : Prop := blockSlotsRow.holds Tryd.pinned (OpenSpec.ofChange blockSlotsWrong)

/-- 'dustpanlaw07.BlockPlays': WHATEVER THE INPUT: true; the input reads as it did. -/
def blockPlaysSpec : ChangeSpec := { name := "blockPlays", fn := fun _ => fun
  | [d1, d2, d3] => { results := [.lit (.bool true)], args := [d1, d2, d3] }
  | _ => none }
def blockPlaysRow : OpenClaim := { program := "ytjbmpdibjfcafaadoor", sum := "d842b1c006b41672e97492d1d2ed2a82502caaa4477d4d37746f3ee5d225b540", func := "dustpan/dustpanlaw07.BlockPlays", spec := "blockPlays", unfollowed := true, recurses := true, named := ["dustpan/config.limits", "dustpan/class.sizes"], apart := false, laid := [("dustpan/config.limits", laid_dustpan_config_limits), ("dustpan/class.sizes", laid_dustpan_class_sizes)] }
def BlockPlaysSaid : Prop := blockPlaysRow.holds Tryd.pinned (OpenSpec.ofChange blockPlaysSpec)

/-- ITS FALSE NEIGHBOUR: 'it returns false'. Refute it at one input. -/
def blockPlaysWrong : ChangeSpec := { name := "blockPlays", fn := fun _ => fun
  | [d1, d2, d3] => { results := [.lit (.bool false)], args := [d1, d2, d3] }
  | _ => none }
def BlockPlaysWrongFalsely : Prop := blockPlaysRow.holds Tryd.pinned (OpenSpec.ofChange blockPlaysWrong)

/-- 'dustpanlaw07.BlockNone': WHATEVER THE INPUT: true; the input reads as it did. -/
def blockNoneSpec : ChangeSpec := { name := "blockNone", fn := fun _ => fun
  | [d1, d2] => { results := [.lit (.bool true)], args := [d1, d2] }
  | _ => none }
def blockNoneRow : OpenClaim := { program := "ytjbmpdibjfcafaadoor", sum := "d842b1c006b41672e97492d1d2ed2a82502caaa4477d4d37746f3ee5d225b540", func := "dustpan/dustpanlaw07.BlockNone", spec := "blockNone", unfollowed := true, recurses := true, named := ["dustpan/config.limits", "dustpan/class.sizes"], apart := false, laid := [("dustpan/config.limits", laid_dustpan_config_limits), ("dustpan/class.sizes", laid_dustpan_class_sizes)] }
def BlockNoneSaid : Prop := blockNoneRow.holds Tryd.pinned (OpenSpec.ofChange blockNoneSpec)

/-- ITS FALSE NEIGHBOUR: 'it returns false'. Refute it at one input. -/
def blockNoneWrong : ChangeSpec := { name := "blockNone", fn := fun _ => fun
  | [d1, d2] => { results := [.lit (.bool false)], args := [d1, d2] }
  | _ => none }
def BlockNoneWrongFalsely : Prop := blockNoneRow.holds Tryd.pinned (OpenSpec.ofChange blockNoneWrong)

/-- 'dustpanlaw08.ListsPlay': WHATEVER THE INPUT: true; the input reads as it did. -/
def listsPlaySpec : ChangeSpec := { name := "listsPlay", fn := fun _ => fun
  | [d1, d2, d3] => { results := [.lit (.bool true)], args := [d1, d2, d3] }
  | _ => none }
def listsPlayRow : OpenClaim := { program := "ytjbmpdibjfcafaadoor", sum := "d842b1c006b41672e97492d1d2ed2a82502caaa4477d4d37746f3ee5d225b540", func := "dustpan/dustpanlaw08.ListsPlay", spec := "listsPlay", unfollowed := true, recurses := true, named := ["dustpan/config.limits", "dustpan/class.sizes"], apart := false, laid := [("dustpan/config.limits", laid_dustpan_config_limits), ("dustpan/class.sizes", laid_dustpan_class_sizes)] }
def ListsPlaySaid : Prop := listsPlayRow.holds Tryd.pinned (OpenSpec.ofChange listsPlaySpec)

/-- ITS FALSE NEIGHBOUR: 'it returns false'. Refute it at one input. -/
def listsPlayWrong : ChangeSpec := { name := "listsPlay", fn := fun _ => fun
  | [d1, d2, d3] => { results := [.lit (.bool false)], args := [d1, d2, d3] }
  | _ => none }
def ListsPlayWrongFalsely : Prop := listsPlayRow.holds Tryd.pinned (OpenSpec.ofChange listsPlayWrong)

/-- 'dustpanlaw08.ListsNone': WHATEVER THE INPUT: true; the input reads as it did. -/
def listsNoneSpec : ChangeSpec := { name := "listsNone", fn := fun _ => fun
  | [d1, d2, d3] => { results := [.lit (.bool true)], args := [d1, d2, d3] }
  | _ => none }
def listsNoneRow : OpenClaim := { program := "ytjbmpdibjfcafaadoor", sum := "d842b1c006b41672e97492d1d2ed2a82502caaa4477d4d37746f3ee5d225b540", func := "dustpan/dustpanlaw08.ListsNone", spec := "listsNone", unfollowed := true, recurses := true, named := ["dustpan/config.limits", "dustpan/class.sizes"], apart := false, laid := [("dustpan/config.limits", laid_dustpan_config_limits), ("dustpan/class.sizes", laid_dustpan_class_sizes)] }
def ListsNoneSaid : Prop := listsNoneRow.holds Tryd.pinned (OpenSpec.ofChange listsNoneSpec)

/-- ITS FALSE NEIGHBOUR: 'it returns false'. Refute it at one input. -/
def listsNoneWrong : ChangeSpec := { name := "listsNone", fn := fun _ => fun
  | [d1, d2, d3] => { results := [.lit (.bool false)], args := [d1, d2, d3] }
  | _ => none }
def ListsNoneWrongFalsely : Prop := listsNoneRow.holds Tryd.pinned (OpenSpec.ofChange listsNoneWrong)

/-- 'dustpanlaw08.ListsLast': WHATEVER THE INPUT: true; the input reads as it did. -/
def listsLastSpec : ChangeSpec := { name := "listsLast", fn := fun _ => fun
  | [d1, d2, d3] => { results := [.lit (.bool true)], args := [d1, d2, d3] }
  | _ => none }
def listsLastRow : OpenClaim := { program := "ytjbmpdibjfcafaadoor", sum := "d842b1c006b41672e97492d1d2ed2a82502caaa4477d4d37746f3ee5d225b540", func := "dustpan/dustpanlaw08.ListsLast", spec := "listsLast", unfollowed := true, recurses := true, named := ["dustpan/config.limits", "dustpan/class.sizes"], apart := false, laid := [("dustpan/config.limits", laid_dustpan_config_limits), ("dustpan/class.sizes", laid_dustpan_class_sizes)] }
def ListsLastSaid : Prop := listsLastRow.holds Tryd.pinned (OpenSpec.ofChange listsLastSpec)

/-- ITS FALSE NEIGHBOUR: 'it returns false'. Refute it at one input. -/
def listsLastWrong : ChangeSpec := { name := "listsLast", fn := fun _ => fun
  | [d1, d2, d3] => { results := [.lit (.bool false)], args := [d1, d2, d3] }
  | _ => none }
def ListsLastWrongFalsely : Prop := listsLastRow.holds Tryd.pinned (OpenSpec.ofChange listsLastWrong)

/- THE SECOND FORM. 'bulk': how many values and letters a reading holds, each counted each time it is reached (what is shared counts as often as it is met; a slice's spare places count too). A statement '..UptoSaid' is the law's where the arguments, and the package variables that the reading takes, are together of bulk at most 1048576: NARROWER than '..Said'. Prove '..Said' where nothing that the law and all that it calls make is longer than what came in: it says more and counts as full. Else prove '..UptoSaid'. A law counts once. -/
mutual
def uptoBulk {H : Type} : DataW H → Nat
  | .lit (.string bytes) => bytes.length + 1
  | .lit _ => 1
  | .nil => 1
  | .ptr d => uptoBulk d + 1
  | .slice elems spare => uptoBulkAll elems + uptoBulkAll spare + 1
  | .agg parts => uptoBulkAll parts + 1
  | .iface _ d => uptoBulk d + 1
  | .map entries => uptoBulkEntries entries + 1
  | .held _ => 1
def uptoBulkAll {H : Type} : List (DataW H) → Nat
  | [] => 0
  | d :: r => uptoBulk d + uptoBulkAll r
def uptoBulkEntries {H : Type} : List (Lit × DataW H) → Nat
  | [] => 0
  | x :: r => uptoBulkEntry x + uptoBulkEntries r
def uptoBulkEntry {H : Type} : Lit × DataW H → Nat
  | (.string bytes, d) => bytes.length + uptoBulk d + 1
  | (_, d) => uptoBulk d + 1
 end
def uptoSmall : (H : Type) → List (DataW H) → Bool := fun _ ds => decide (uptoBulkAll ds ≤ 1048576)
def OpenSpec.upto (s : _root_.Go.ChangeSpec) : _root_.Go.OpenSpec := { _root_.Go.OpenSpec.ofChange s with cond := some uptoSmall }

/-- 'dustpanlaw01.BitsSames', WHERE WHAT IT READS IS OF BULK AT MOST 1048576: true; the input reads as it did. -/
def bitsSamesUptoRow : OpenClaim := { program := "ytjbmpdibjfcafaadoor", sum := "d842b1c006b41672e97492d1d2ed2a82502caaa4477d4d37746f3ee5d225b540", func := "dustpan/dustpanlaw01.BitsSames", spec := "bitsSames", named := ["math/bits.deBruijn64tab"], apart := false, laid := [("math/bits.deBruijn64tab", laid_math_bits_deBruijn64tab)], narrowed := true }
def BitsSamesUptoSaid : Prop := bitsSamesUptoRow.holds Tryd.pinned (OpenSpec.upto bitsSamesSpec)

/-- 'dustpanlaw01.BitsPlay', WHERE WHAT IT READS IS OF BULK AT MOST 1048576: true; the input reads as it did. -/
def bitsPlayUptoRow : OpenClaim := { program := "ytjbmpdibjfcafaadoor", sum := "d842b1c006b41672e97492d1d2ed2a82502caaa4477d4d37746f3ee5d225b540", func := "dustpan/dustpanlaw01.BitsPlay", spec := "bitsPlay", unfollowed := true, recurses := true, named := ["math/bits.deBruijn64tab"], apart := false, laid := [("math/bits.deBruijn64tab", laid_math_bits_deBruijn64tab)], narrowed := true }
def BitsPlayUptoSaid : Prop := bitsPlayUptoRow.holds Tryd.pinned (OpenSpec.upto bitsPlaySpec)

/-- 'dustpanlaw01.BitsRises', WHERE WHAT IT READS IS OF BULK AT MOST 1048576: true; the input reads as it did. -/
def bitsRisesUptoRow : OpenClaim := { program := "ytjbmpdibjfcafaadoor", sum := "d842b1c006b41672e97492d1d2ed2a82502caaa4477d4d37746f3ee5d225b540", func := "dustpan/dustpanlaw01.BitsRises", spec := "bitsRises", unfollowed := true, recurses := true, named := ["math/bits.deBruijn64tab"], apart := false, laid := [("math/bits.deBruijn64tab", laid_math_bits_deBruijn64tab)], narrowed := true }
def BitsRisesUptoSaid : Prop := bitsRisesUptoRow.holds Tryd.pinned (OpenSpec.upto bitsRisesSpec)

/-- 'dustpanlaw07.BlockCopies', WHERE WHAT IT READS IS OF BULK AT MOST 1048576: true; the input reads as it did. -/
def blockCopiesUptoRow : OpenClaim := { program := "ytjbmpdibjfcafaadoor", sum := "d842b1c006b41672e97492d1d2ed2a82502caaa4477d4d37746f3ee5d225b540", func := "dustpan/dustpanlaw07.BlockCopies", spec := "blockCopies", unfollowed := true, recurses := true, named := ["dustpan/config.limits", "dustpan/class.sizes"], apart := false, laid := [("dustpan/config.limits", laid_dustpan_config_limits), ("dustpan/class.sizes", laid_dustpan_class_sizes)], narrowed := true }
def BlockCopiesUptoSaid : Prop := blockCopiesUptoRow.holds Tryd.pinned (OpenSpec.upto blockCopiesSpec)

/-- 'dustpanlaw01.BitsCopies', WHERE WHAT IT READS IS OF BULK AT MOST 1048576: true; the input reads as it did. -/
def bitsCopiesUptoRow : OpenClaim := { program := "ytjbmpdibjfcafaadoor", sum := "d842b1c006b41672e97492d1d2ed2a82502caaa4477d4d37746f3ee5d225b540", func := "dustpan/dustpanlaw01.BitsCopies", spec := "bitsCopies", unfollowed := true, recurses := true, named := ["math/bits.deBruijn64tab"], apart := false, laid := [("math/bits.deBruijn64tab", laid_math_bits_deBruijn64tab)], narrowed := true }
def BitsCopiesUptoSaid : Prop := bitsCopiesUptoRow.holds Tryd.pinned (OpenSpec.upto bitsCopiesSpec)

/-- 'dustpanlaw01.BitsNone', WHERE WHAT IT READS IS OF BULK AT MOST 1048576: true; the input reads as it did. -/
def bitsNoneUptoRow : OpenClaim := { program := "ytjbmpdibjfcafaadoor", sum := "d842b1c006b41672e97492d1d2ed2a82502caaa4477d4d37746f3ee5d225b540", func := "dustpan/dustpanlaw01.BitsNone", spec := "bitsNone", unfollowed := true, recurses := true, named := ["math/bits.deBruijn64tab"], apart := false, laid := [("math/bits.deBruijn64tab", laid_math_bits_deBruijn64tab)], narrowed := true }
def BitsNoneUptoSaid : Prop := bitsNoneUptoRow.holds Tryd.pinned (OpenSpec.upto bitsNoneSpec)

/-- 'dustpanlaw07.BlockSlots', WHERE WHAT IT READS IS OF BULK AT MOST 1048576: true; the input reads as it did. -/
def blockSlotsUptoRow : OpenClaim := { program := "ytjbmpdibjfcafaadoor", sum := "d842b1c006b41672e97492d1d2ed2a82502caaa4477d4d37746f3ee5d225b540", func := "dustpan/dustpanlaw07.BlockSlots", spec := "blockSlots", unfollowed := true, recurses := true, named := ["dustpan/config.limits", "dustpan/class.sizes"], apart := false, laid := [("dustpan/config.limits", laid_dustpan_config_limits), ("dustpan/class.sizes", laid_dustpan_class_sizes)], narrowed := true }
def BlockSlotsUptoSaid : Prop := blockSlotsUptoRow.holds Tryd.pinned (OpenSpec.upto blockSlotsSpec)

/-- 'dustpanlaw07.BlockPlays', WHERE WHAT IT READS IS OF BULK AT MOST 1048576: true; the input reads as it did. -/
def blockPlaysUptoRow : OpenClaim := { program := "ytjbmpdibjfcafaadoor", sum := "d842b1c006b41672e97492d1d2ed2a82502caaa4477d4d37746f3ee5d225b540", func := "dustpan/dustpanlaw07.BlockPlays", spec := "blockPlays", unfollowed := true, recurses := true, named := ["dustpan/config.limits", "dustpan/class.sizes"], apart := false, laid := [("dustpan/config.limits", laid_dustpan_config_limits), ("dustpan/class.sizes", laid_dustpan_class_sizes)], narrowed := true }
def BlockPlaysUptoSaid : Prop := blockPlaysUptoRow.holds Tryd.pinned (OpenSpec.upto blockPlaysSpec)

/-- 'dustpanlaw07.BlockNone', WHERE WHAT IT READS IS OF BULK AT MOST 1048576: true; the input reads as it did. -/
def blockNoneUptoRow : OpenClaim := { program := "ytjbmpdibjfcafaadoor", sum := "d842b1c006b41672e97492d1d2ed2a82502caaa4477d4d37746f3ee5d225b540", func := "dustpan/dustpanlaw07.BlockNone", spec := "blockNone", unfollowed := true, recurses := true, named := ["dustpan/config.limits", "dustpan/class.sizes"], apart := false, laid := [("dustpan/config.limits", laid_dustpan_config_limits), ("dustpan/class.sizes", laid_dustpan_class_sizes)], narrowed := true }
def BlockNoneUptoSaid : Prop := blockNoneUptoRow.holds Tryd.pinned (OpenSpec.upto blockNoneSpec)

/-- 'dustpanlaw08.ListsPlay', WHERE WHAT IT READS IS OF BULK AT MOST 1048576: true; the input reads as it did. -/
def listsPlayUptoRow : OpenClaim := { program := "ytjbmpdibjfcafaadoor", sum := "d842b1c006b41672e97492d1d2ed2a82502caaa4477d4d37746f3ee5d225b540", func := "dustpan/dustpanlaw08.ListsPlay", spec := "listsPlay", unfollowed := true, recurses := true, named := ["dustpan/config.limits", "dustpan/class.sizes"], apart := false, laid := [("dustpan/config.limits", laid_dustpan_config_limits), ("dustpan/class.sizes", laid_dustpan_class_sizes)], narrowed := true }
def ListsPlayUptoSaid : Prop := listsPlayUptoRow.holds Tryd.pinned (OpenSpec.upto listsPlaySpec)

/-- 'dustpanlaw08.ListsNone', WHERE WHAT IT READS IS OF BULK AT MOST 1048576: true; the input reads as it did. -/
def listsNoneUptoRow : OpenClaim := { program := "ytjbmpdibjfcafaadoor", sum := "d842b1c006b41672e97492d1d2ed2a82502caaa4477d4d37746f3ee5d225b540", func := "dustpan/dustpanlaw08.ListsNone", spec := "listsNone", unfollowed := true, recurses := true, named := ["dustpan/config.limits", "dustpan/class.sizes"], apart := false, laid := [("dustpan/config.limits", laid_dustpan_config_limits), ("dustpan/class.sizes", laid_dustpan_class_sizes)], narrowed := true }
def ListsNoneUptoSaid : Prop := listsNoneUptoRow.holds Tryd.pinned (OpenSpec.upto listsNoneSpec)

/-- 'dustpanlaw08.ListsLast', WHERE WHAT IT READS IS OF BULK AT MOST 1048576: true; the input reads as it did. -/
def listsLastUptoRow : OpenClaim := { program := "ytjbmpdibjfcafaadoor", sum := "d842b1c006b41672e97492d1d2ed2a82502caaa4477d4d37746f3ee5d225b540", func := "dustpan/dustpanlaw08.ListsLast", spec := "listsLast", unfollowed := true, recurses := true, named := ["dustpan/config.limits", "dustpan/class.sizes"], apart := false, laid := [("dustpan/config.limits", laid_dustpan_config_limits), ("dustpan/class.sizes", laid_dustpan_class_sizes)], narrowed := true }
def ListsLastUptoSaid : Prop := listsLastUptoRow.holds Tryd.pinned (OpenSpec.upto listsLastSpec)

end Rows
end Go.Proofs.YtjbmpdibjfcafaaDoor
