/-
  NARROWER THAN 'FOR EVERY INPUT', by the rows' own cells (each row's printed sentence says how): ClassOf: laid · ClassLeast: laid · ClassOrder: laid · ConfigRight: laid · ClassStarts: laid · HeaderApart: laid · HeaderObjects: laid · HeaderLinks: laid · AddrFind: laid · AddrApart: laid · ConfigBounds: laid · ConfigGrows: laid · AddrOf: laid.
  DERIVED. THE GIVEN ROWS OF THIS SEAT. 13 by the template 'for every input the law returns true; each argument reads behind the call as it read before'; 0 by the template 'total and deterministic' (their statements: YtmonmiadcmffgaaDoorTotals.lean).
  GIVEN WITH THE SEED: the statements are not yours to turn. If you find one false, say at which input.
  Laid BY PROGRAM, IN A SANDBOX (cutbox-rows.mjs): the forced cells as the released guide's own fill.sh prints them over the translation e1de21b5db02da2c… (all of the seat's roots in one cut). By AI agents, Wed Nov 11 2026. No macro, syntax, notation, axiom, sorry.
-/
import Derived.Test.YtmonmiadcmffgaaDoorChecked
import GoSem.Claim
import GoSem.ClaimJoined
import GoSem.ClaimMapViews
import Derived.JoinedTies
import Derived.KernelRfl
namespace Go.Proofs.YtmonmiadcmffgaaDoor
/- THE CELL 'sum', in the pinned program and in every row, IS THE sha256 OF THE DUMP (.gsa) THAT YtmonmiadcmffgaaDoorProg.lean LOADS. Nothing in Lean hashes anything: it is a label: what it is worth is what the hold of that sum in a sandbox is worth. -/
noncomputable def Tryd.pinned : Pinned := { name := "ytmonmiadcmffgaadoor", sum := "e1de21b5db02da2cddd4d7d589001f1ecd749f0973f625a92e179a259e71c4f9", checked := Tryd.checked }
namespace Rows
def none {H : Type} : Left H := { results := [], args := [] }

/- WHAT THE LISTED PACKAGE-LEVEL VARIABLES READ AS WHEN THE CALL BEGINS. Each datum BY PROGRAM (the guide's laid-datum.mjs) off the statement by which the dump's own 'gosem.cut.vars' lays the variable. In a bare row this is a premise. The card (YtmonmiadcmffgaaDoorCards.lean) ties it to the program's text. -/
def laid_dustpan_class_sizes {H : Type} : DataW H := .agg [.lit (.int .i64 2), .lit (.int .i64 4), .lit (.int .i64 8), .lit (.int .i64 16)]
def laid_dustpan_config_limits {H : Type} : DataW H := .agg [.agg [.lit (.int .i64 1), .lit (.int .i64 4096)], .agg [.lit (.int .i64 16), .lit (.int .i64 256)], .agg [.lit (.int .i64 1), .lit (.int .i64 8)], .agg [.lit (.int .i64 1), .lit (.int .i64 64)], .agg [.lit (.int .i64 0), .lit (.int .i64 64)], .agg [.lit (.int .i64 1), .lit (.int .i64 256)], .agg [.lit (.int .i64 1), .lit (.int .i64 4096)]]

/-- 'dustpanlaw03.ClassOf': WHATEVER THE INPUT: true; the input reads as it did. -/
def classOfSpec : ChangeSpec := { name := "classOf", fn := fun _ => fun
  | [d1, d2] => { results := [.lit (.bool true)], args := [d1, d2] }
  | _ => none }
def classOfRow : OpenClaim := { program := "ytmonmiadcmffgaadoor", sum := "e1de21b5db02da2cddd4d7d589001f1ecd749f0973f625a92e179a259e71c4f9", func := "dustpan/dustpanlaw03.ClassOf", spec := "classOf", named := ["dustpan/class.sizes"], apart := false, laid := [("dustpan/class.sizes", laid_dustpan_class_sizes)] }
def ClassOfSaid : Prop := classOfRow.holds Tryd.pinned (OpenSpec.ofChange classOfSpec)

/-- ITS FALSE NEIGHBOUR: 'it returns false'. Refute it at one input. -/
def classOfWrong : ChangeSpec := { name := "classOf", fn := fun _ => fun
  | [d1, d2] => { results := [.lit (.bool false)], args := [d1, d2] }
  | _ => none }
def ClassOfWrongFalsely : Prop := classOfRow.holds Tryd.pinned (OpenSpec.ofChange classOfWrong)

/-- 'dustpanlaw03.ClassLeast': WHATEVER THE INPUT: true; the input reads as it did. -/
def classLeastSpec : ChangeSpec := { name := "classLeast", fn := fun _ => fun
  | [d1, d2] => { results := [.lit (.bool true)], args := [d1, d2] }
  | _ => none }
def classLeastRow : OpenClaim := { program := "ytmonmiadcmffgaadoor", sum := "e1de21b5db02da2cddd4d7d589001f1ecd749f0973f625a92e179a259e71c4f9", func := "dustpan/dustpanlaw03.ClassLeast", spec := "classLeast", named := ["dustpan/class.sizes"], apart := false, laid := [("dustpan/class.sizes", laid_dustpan_class_sizes)] }
def ClassLeastSaid : Prop := classLeastRow.holds Tryd.pinned (OpenSpec.ofChange classLeastSpec)

/-- ITS FALSE NEIGHBOUR: 'it returns false'. Refute it at one input. -/
def classLeastWrong : ChangeSpec := { name := "classLeast", fn := fun _ => fun
  | [d1, d2] => { results := [.lit (.bool false)], args := [d1, d2] }
  | _ => none }
def ClassLeastWrongFalsely : Prop := classLeastRow.holds Tryd.pinned (OpenSpec.ofChange classLeastWrong)

/-- 'dustpanlaw03.ClassOrder': WHATEVER THE INPUT: true; the input reads as it did. -/
def classOrderSpec : ChangeSpec := { name := "classOrder", fn := fun _ => fun
  | [d1, d2, d3] => { results := [.lit (.bool true)], args := [d1, d2, d3] }
  | _ => none }
def classOrderRow : OpenClaim := { program := "ytmonmiadcmffgaadoor", sum := "e1de21b5db02da2cddd4d7d589001f1ecd749f0973f625a92e179a259e71c4f9", func := "dustpan/dustpanlaw03.ClassOrder", spec := "classOrder", named := ["dustpan/class.sizes"], apart := false, laid := [("dustpan/class.sizes", laid_dustpan_class_sizes)] }
def ClassOrderSaid : Prop := classOrderRow.holds Tryd.pinned (OpenSpec.ofChange classOrderSpec)

/-- ITS FALSE NEIGHBOUR: 'it returns false'. Refute it at one input. -/
def classOrderWrong : ChangeSpec := { name := "classOrder", fn := fun _ => fun
  | [d1, d2, d3] => { results := [.lit (.bool false)], args := [d1, d2, d3] }
  | _ => none }
def ClassOrderWrongFalsely : Prop := classOrderRow.holds Tryd.pinned (OpenSpec.ofChange classOrderWrong)

/-- 'dustpanlaw02.ConfigRight': WHATEVER THE INPUT: true; the input reads as it did. -/
def configRightSpec : ChangeSpec := { name := "configRight", fn := fun _ => fun
  | [d] => { results := [.lit (.bool true)], args := [d] }
  | _ => none }
def configRightRow : OpenClaim := { program := "ytmonmiadcmffgaadoor", sum := "e1de21b5db02da2cddd4d7d589001f1ecd749f0973f625a92e179a259e71c4f9", func := "dustpan/dustpanlaw02.ConfigRight", spec := "configRight", unfollowed := true, recurses := true, named := ["dustpan/config.limits"], apart := false, laid := [("dustpan/config.limits", laid_dustpan_config_limits)] }
def ConfigRightSaid : Prop := configRightRow.holds Tryd.pinned (OpenSpec.ofChange configRightSpec)

/-- ITS FALSE NEIGHBOUR: 'it returns false'. Refute it at one input. -/
def configRightWrong : ChangeSpec := { name := "configRight", fn := fun _ => fun
  | [d] => { results := [.lit (.bool false)], args := [d] }
  | _ => none }
def ConfigRightWrongFalsely : Prop := configRightRow.holds Tryd.pinned (OpenSpec.ofChange configRightWrong)

/-- 'dustpanlaw03.ClassStarts': WHATEVER THE INPUT: true; the input reads as it did. -/
def classStartsSpec : ChangeSpec := { name := "classStarts", fn := fun _ => fun
  | [d1, d2, d3] => { results := [.lit (.bool true)], args := [d1, d2, d3] }
  | _ => none }
def classStartsRow : OpenClaim := { program := "ytmonmiadcmffgaadoor", sum := "e1de21b5db02da2cddd4d7d589001f1ecd749f0973f625a92e179a259e71c4f9", func := "dustpan/dustpanlaw03.ClassStarts", spec := "classStarts", unfollowed := true, recurses := true, named := ["dustpan/class.sizes"], apart := false, laid := [("dustpan/class.sizes", laid_dustpan_class_sizes)] }
def ClassStartsSaid : Prop := classStartsRow.holds Tryd.pinned (OpenSpec.ofChange classStartsSpec)

/-- ITS FALSE NEIGHBOUR: 'it returns false'. Refute it at one input. -/
def classStartsWrong : ChangeSpec := { name := "classStarts", fn := fun _ => fun
  | [d1, d2, d3] => { results := [.lit (.bool false)], args := [d1, d2, d3] }
  | _ => none }
def ClassStartsWrongFalsely : Prop := classStartsRow.holds Tryd.pinned (OpenSpec.ofChange classStartsWrong)

/-- 'dustpanlaw05.HeaderApart': WHATEVER THE INPUT: true; the input reads as it did. -/
def headerApartSpec : ChangeSpec := { name := "headerApart", fn := fun _ => fun
  | [d1, d2, d3] => { results := [.lit (.bool true)], args := [d1, d2, d3] }
  | _ => none }
def headerApartRow : OpenClaim := { program := "ytmonmiadcmffgaadoor", sum := "e1de21b5db02da2cddd4d7d589001f1ecd749f0973f625a92e179a259e71c4f9", func := "dustpan/dustpanlaw05.HeaderApart", spec := "headerApart", named := ["dustpan/class.sizes"], apart := false, laid := [("dustpan/class.sizes", laid_dustpan_class_sizes)] }
def HeaderApartSaid : Prop := headerApartRow.holds Tryd.pinned (OpenSpec.ofChange headerApartSpec)

/-- ITS FALSE NEIGHBOUR: 'it returns false'. Refute it at one input. -/
def headerApartWrong : ChangeSpec := { name := "headerApart", fn := fun _ => fun
  | [d1, d2, d3] => { results := [.lit (.bool false)], args := [d1, d2, d3] }
  | _ => none }
def HeaderApartWrongFalsely : Prop := headerApartRow.holds Tryd.pinned (OpenSpec.ofChange headerApartWrong)

/-- 'dustpanlaw05.HeaderObjects': WHATEVER THE INPUT: true; the input reads as it did. -/
def headerObjectsSpec : ChangeSpec := { name := "headerObjects", fn := fun _ => fun
  | [d1, d2] => { results := [.lit (.bool true)], args := [d1, d2] }
  | _ => none }
def headerObjectsRow : OpenClaim := { program := "ytmonmiadcmffgaadoor", sum := "e1de21b5db02da2cddd4d7d589001f1ecd749f0973f625a92e179a259e71c4f9", func := "dustpan/dustpanlaw05.HeaderObjects", spec := "headerObjects", named := ["dustpan/class.sizes"], apart := false, laid := [("dustpan/class.sizes", laid_dustpan_class_sizes)] }
def HeaderObjectsSaid : Prop := headerObjectsRow.holds Tryd.pinned (OpenSpec.ofChange headerObjectsSpec)

/-- ITS FALSE NEIGHBOUR: 'it returns false'. Refute it at one input. -/
def headerObjectsWrong : ChangeSpec := { name := "headerObjects", fn := fun _ => fun
  | [d1, d2] => { results := [.lit (.bool false)], args := [d1, d2] }
  | _ => none }
def HeaderObjectsWrongFalsely : Prop := headerObjectsRow.holds Tryd.pinned (OpenSpec.ofChange headerObjectsWrong)

/-- 'dustpanlaw05.HeaderLinks': WHATEVER THE INPUT: true; the input reads as it did. -/
def headerLinksSpec : ChangeSpec := { name := "headerLinks", fn := fun _ => fun
  | [d] => { results := [.lit (.bool true)], args := [d] }
  | _ => none }
def headerLinksRow : OpenClaim := { program := "ytmonmiadcmffgaadoor", sum := "e1de21b5db02da2cddd4d7d589001f1ecd749f0973f625a92e179a259e71c4f9", func := "dustpan/dustpanlaw05.HeaderLinks", spec := "headerLinks", named := ["dustpan/class.sizes"], apart := false, laid := [("dustpan/class.sizes", laid_dustpan_class_sizes)] }
def HeaderLinksSaid : Prop := headerLinksRow.holds Tryd.pinned (OpenSpec.ofChange headerLinksSpec)

/-- ITS FALSE NEIGHBOUR: 'it returns false'. Refute it at one input. -/
def headerLinksWrong : ChangeSpec := { name := "headerLinks", fn := fun _ => fun
  | [d] => { results := [.lit (.bool false)], args := [d] }
  | _ => none }
def HeaderLinksWrongFalsely : Prop := headerLinksRow.holds Tryd.pinned (OpenSpec.ofChange headerLinksWrong)

/-- 'dustpanlaw04.AddrFind': WHATEVER THE INPUT: true; the input reads as it did. -/
def addrFindSpec : ChangeSpec := { name := "addrFind", fn := fun _ => fun
  | [d1, d2, d3] => { results := [.lit (.bool true)], args := [d1, d2, d3] }
  | _ => none }
def addrFindRow : OpenClaim := { program := "ytmonmiadcmffgaadoor", sum := "e1de21b5db02da2cddd4d7d589001f1ecd749f0973f625a92e179a259e71c4f9", func := "dustpan/dustpanlaw04.AddrFind", spec := "addrFind", unfollowed := true, recurses := true, named := ["dustpan/config.limits", "dustpan/class.sizes"], apart := false, laid := [("dustpan/config.limits", laid_dustpan_config_limits), ("dustpan/class.sizes", laid_dustpan_class_sizes)] }
def AddrFindSaid : Prop := addrFindRow.holds Tryd.pinned (OpenSpec.ofChange addrFindSpec)

/-- ITS FALSE NEIGHBOUR: 'it returns false'. Refute it at one input. -/
def addrFindWrong : ChangeSpec := { name := "addrFind", fn := fun _ => fun
  | [d1, d2, d3] => { results := [.lit (.bool false)], args := [d1, d2, d3] }
  | _ => none }
def AddrFindWrongFalsely : Prop := addrFindRow.holds Tryd.pinned (OpenSpec.ofChange addrFindWrong)

/-- 'dustpanlaw04.AddrApart': WHATEVER THE INPUT: true; the input reads as it did. -/
def addrApartSpec : ChangeSpec := { name := "addrApart", fn := fun _ => fun
  | [d1, d2, d3] => { results := [.lit (.bool true)], args := [d1, d2, d3] }
  | _ => none }
def addrApartRow : OpenClaim := { program := "ytmonmiadcmffgaadoor", sum := "e1de21b5db02da2cddd4d7d589001f1ecd749f0973f625a92e179a259e71c4f9", func := "dustpan/dustpanlaw04.AddrApart", spec := "addrApart", unfollowed := true, recurses := true, named := ["dustpan/config.limits", "dustpan/class.sizes"], apart := false, laid := [("dustpan/config.limits", laid_dustpan_config_limits), ("dustpan/class.sizes", laid_dustpan_class_sizes)] }
def AddrApartSaid : Prop := addrApartRow.holds Tryd.pinned (OpenSpec.ofChange addrApartSpec)

/-- ITS FALSE NEIGHBOUR: 'it returns false'. Refute it at one input. -/
def addrApartWrong : ChangeSpec := { name := "addrApart", fn := fun _ => fun
  | [d1, d2, d3] => { results := [.lit (.bool false)], args := [d1, d2, d3] }
  | _ => none }
def AddrApartWrongFalsely : Prop := addrApartRow.holds Tryd.pinned (OpenSpec.ofChange addrApartWrong)

/-- 'dustpanlaw02.ConfigBounds': WHATEVER THE INPUT: true; the input reads as it did. -/
def configBoundsSpec : ChangeSpec := { name := "configBounds", fn := fun _ => fun
  | [d1, d2] => { results := [.lit (.bool true)], args := [d1, d2] }
  | _ => none }
def configBoundsRow : OpenClaim := { program := "ytmonmiadcmffgaadoor", sum := "e1de21b5db02da2cddd4d7d589001f1ecd749f0973f625a92e179a259e71c4f9", func := "dustpan/dustpanlaw02.ConfigBounds", spec := "configBounds", unfollowed := true, recurses := true, named := ["dustpan/config.limits"], apart := false, laid := [("dustpan/config.limits", laid_dustpan_config_limits)] }
def ConfigBoundsSaid : Prop := configBoundsRow.holds Tryd.pinned (OpenSpec.ofChange configBoundsSpec)

/-- ITS FALSE NEIGHBOUR: 'it returns false'. Refute it at one input. -/
def configBoundsWrong : ChangeSpec := { name := "configBounds", fn := fun _ => fun
  | [d1, d2] => { results := [.lit (.bool false)], args := [d1, d2] }
  | _ => none }
def ConfigBoundsWrongFalsely : Prop := configBoundsRow.holds Tryd.pinned (OpenSpec.ofChange configBoundsWrong)

/-- 'dustpanlaw02.ConfigGrows': WHATEVER THE INPUT: true; the input reads as it did. -/
def configGrowsSpec : ChangeSpec := { name := "configGrows", fn := fun _ => fun
  | [d1, d2, d3] => { results := [.lit (.bool true)], args := [d1, d2, d3] }
  | _ => none }
def configGrowsRow : OpenClaim := { program := "ytmonmiadcmffgaadoor", sum := "e1de21b5db02da2cddd4d7d589001f1ecd749f0973f625a92e179a259e71c4f9", func := "dustpan/dustpanlaw02.ConfigGrows", spec := "configGrows", unfollowed := true, recurses := true, named := ["dustpan/config.limits"], apart := false, laid := [("dustpan/config.limits", laid_dustpan_config_limits)] }
def ConfigGrowsSaid : Prop := configGrowsRow.holds Tryd.pinned (OpenSpec.ofChange configGrowsSpec)

/-- ITS FALSE NEIGHBOUR: 'it returns false'. Refute it at one input. -/
def configGrowsWrong : ChangeSpec := { name := "configGrows", fn := fun _ => fun
  | [d1, d2, d3] => { results := [.lit (.bool false)], args := [d1, d2, d3] }
  | _ => none }
def ConfigGrowsWrongFalsely : Prop := configGrowsRow.holds Tryd.pinned (OpenSpec.ofChange configGrowsWrong)

/-- 'dustpanlaw04.AddrOf': WHATEVER THE INPUT: true; the input reads as it did. -/
def addrOfSpec : ChangeSpec := { name := "addrOf", fn := fun _ => fun
  | [d1, d2, d3] => { results := [.lit (.bool true)], args := [d1, d2, d3] }
  | _ => none }
def addrOfRow : OpenClaim := { program := "ytmonmiadcmffgaadoor", sum := "e1de21b5db02da2cddd4d7d589001f1ecd749f0973f625a92e179a259e71c4f9", func := "dustpan/dustpanlaw04.AddrOf", spec := "addrOf", unfollowed := true, recurses := true, named := ["dustpan/config.limits", "dustpan/class.sizes"], apart := false, laid := [("dustpan/config.limits", laid_dustpan_config_limits), ("dustpan/class.sizes", laid_dustpan_class_sizes)] }
def AddrOfSaid : Prop := addrOfRow.holds Tryd.pinned (OpenSpec.ofChange addrOfSpec)

/-- ITS FALSE NEIGHBOUR: 'it returns false'. Refute it at one input. -/
def addrOfWrong : ChangeSpec := { name := "addrOf", fn := fun _ => fun
  | [d1, d2, d3] => { results := [.lit (.bool false)], args := [d1, d2, d3] }
  | _ => none }
def AddrOfWrongFalsely : Prop := addrOfRow.holds Tryd.pinned (OpenSpec.ofChange addrOfWrong)

/- THE SECOND FORM. 'bulk': how many values and letters a reading holds, each counted each time it is reached (what is shared counts as often as it is met; a slice's spare places count too). A statement '..UptoSaid' is the law's where the arguments, and the package variables that the reading takes, are together of bulk at most 1048576: NARROWER than '..Said'. Prove '..Said' where nothing that the law and all that it calls make is longer than what came in: it says more and counts as full. Else prove '..UptoSaid'. A law counts once. -/
mutual
def uptoBulk {H : Type} : DataW H → Nat
  | .lit (.string bytes) => bytes.length + 1
  | .lit _ => 1
  | .nil => 1
  | .ptr d => uptoBulk d + 1
  | .slice elems spare => uptoBulkAll elems + uptoBulkAll spare + 1
  | .agg parts => uptoBulkAll parts + 1
  | .iface _ d => uptoBulk d + 1
  | .map entries => uptoBulkEntries entries + 1
  | .held _ => 1
def uptoBulkAll {H : Type} : List (DataW H) → Nat
  | [] => 0
  | d :: r => uptoBulk d + uptoBulkAll r
def uptoBulkEntries {H : Type} : List (Lit × DataW H) → Nat
  | [] => 0
  | x :: r => uptoBulkEntry x + uptoBulkEntries r
def uptoBulkEntry {H : Type} : Lit × DataW H → Nat
  | (.string bytes, d) => bytes.length + uptoBulk d + 1
  | (_, d) => uptoBulk d + 1
 end
def uptoSmall : (H : Type) → List (DataW H) → Bool := fun _ ds => decide (uptoBulkAll ds ≤ 1048576)
def OpenSpec.upto (s : _root_.Go.ChangeSpec) : _root_.Go.OpenSpec := { _root_.Go.OpenSpec.ofChange s with cond := some uptoSmall }

/-- 'dustpanlaw03.ClassOf', WHERE WHAT IT READS IS OF BULK AT MOST 1048576: true; the input reads as it did. -/
def classOfUptoRow : OpenClaim := { program := "ytmonmiadcmffgaadoor", sum := "e1de21b5db02da2cddd4d7d589001f1ecd749f0973f625a92e179a259e71c4f9", func := "dustpan/dustpanlaw03.ClassOf", spec := "classOf", named := ["dustpan/class.sizes"], apart := false, laid := [("dustpan/class.sizes", laid_dustpan_class_sizes)], narrowed := true }
def ClassOfUptoSaid : Prop := classOfUptoRow.holds Tryd.pinned (OpenSpec.upto classOfSpec)

/-- 'dustpanlaw03.ClassLeast', WHERE WHAT IT READS IS OF BULK AT MOST 1048576: true; the input reads as it did. -/
def classLeastUptoRow : OpenClaim := { program := "ytmonmiadcmffgaadoor", sum := "e1de21b5db02da2cddd4d7d589001f1ecd749f0973f625a92e179a259e71c4f9", func := "dustpan/dustpanlaw03.ClassLeast", spec := "classLeast", named := ["dustpan/class.sizes"], apart := false, laid := [("dustpan/class.sizes", laid_dustpan_class_sizes)], narrowed := true }
def ClassLeastUptoSaid : Prop := classLeastUptoRow.holds Tryd.pinned (OpenSpec.upto classLeastSpec)

/-- 'dustpanlaw03.ClassOrder', WHERE WHAT IT READS IS OF BULK AT MOST 1048576: true; the input reads as it did. -/
def classOrderUptoRow : OpenClaim := { program := "ytmonmiadcmffgaadoor", sum := "e1de21b5db02da2cddd4d7d589001f1ecd749f0973f625a92e179a259e71c4f9", func := "dustpan/dustpanlaw03.ClassOrder", spec := "classOrder", named := ["dustpan/class.sizes"], apart := false, laid := [("dustpan/class.sizes", laid_dustpan_class_sizes)], narrowed := true }
def ClassOrderUptoSaid : Prop := classOrderUptoRow.holds Tryd.pinned (OpenSpec.upto classOrderSpec)

/-- 'dustpanlaw02.ConfigRight', WHERE WHAT IT READS IS OF BULK AT MOST 1048576: true; the input reads as it did. -/
def configRightUptoRow : OpenClaim := { program := "ytmonmiadcmffgaadoor", sum := "e1de21b5db02da2cddd4d7d589001f1ecd749f0973f625a92e179a259e71c4f9", func := "dustpan/dustpanlaw02.ConfigRight", spec := "configRight", unfollowed := true, recurses := true, named := ["dustpan/config.limits"], apart := false, laid := [("dustpan/config.limits", laid_dustpan_config_limits)], narrowed := true }
def ConfigRightUptoSaid : Prop := configRightUptoRow.holds Tryd.pinned (OpenSpec.upto configRightSpec)

/-- 'dustpanlaw03.ClassStarts', WHERE WHAT IT READS IS OF BULK AT MOST 1048576: true; the input reads as it did. -/
def classStartsUptoRow : OpenClaim := { program := "ytmonmiadcmffgaadoor", sum := "e1de21b5db02da2cddd4d7d589001f1ecd749f0973f625a92e179a259e71c4f9", func := "dustpan/dustpanlaw03.ClassStarts", spec := "classStarts", unfollowed := true, recurses := true, named := ["dustpan/class.sizes"], apart := false, laid := [("dustpan/class.sizes", laid_dustpan_class_sizes)], narrowed := true }
def ClassStartsUptoSaid : Prop := classStartsUptoRow.holds Tryd.pinned (OpenSpec.upto classStartsSpec)

/-- 'dustpanlaw05.HeaderApart', WHERE WHAT IT READS IS OF BULK AT MOST 1048576: true; the input reads as it did. -/
def headerApartUptoRow : OpenClaim := { program := "ytmonmiadcmffgaadoor", sum := "e1de21b5db02da2cddd4d7d589001f1ecd749f0973f625a92e179a259e71c4f9", func := "dustpan/dustpanlaw05.HeaderApart", spec := "headerApart", named := ["dustpan/class.sizes"], apart := false, laid := [("dustpan/class.sizes", laid_dustpan_class_sizes)], narrowed := true }
def HeaderApartUptoSaid : Prop := headerApartUptoRow.holds Tryd.pinned (OpenSpec.upto headerApartSpec)

/-- 'dustpanlaw05.HeaderObjects', WHERE WHAT IT READS IS OF BULK AT MOST 1048576: true; the input reads as it did. -/
def headerObjectsUptoRow : OpenClaim := { program := "ytmonmiadcmffgaadoor", sum := "e1de21b5db02da2cddd4d7d589001f1ecd749f0973f625a92e179a259e71c4f9", func := "dustpan/dustpanlaw05.HeaderObjects", spec := "headerObjects", named := ["dustpan/class.sizes"], apart := false, laid := [("dustpan/class.sizes", laid_dustpan_class_sizes)], narrowed := true }
def HeaderObjectsUptoSaid : Prop := headerObjectsUptoRow.holds Tryd.pinned (OpenSpec.upto headerObjectsSpec)

/-- 'dustpanlaw05.HeaderLinks', WHERE WHAT IT READS IS OF BULK AT MOST 1048576: true; the input reads as it did. -/
def headerLinksUptoRow : OpenClaim := { program := "ytmonmiadcmffgaadoor", sum := "e1de21b5db02da2cddd4d7d589001f1ecd749f0973f625a92e179a259e71c4f9", func := "dustpan/dustpanlaw05.HeaderLinks", spec := "headerLinks", named := ["dustpan/class.sizes"], apart := false, laid := [("dustpan/class.sizes", laid_dustpan_class_sizes)], narrowed := true }
def HeaderLinksUptoSaid : Prop := headerLinksUptoRow.holds Tryd.pinned (OpenSpec.upto headerLinksSpec)

/-- 'dustpanlaw04.AddrFind', WHERE WHAT IT READS IS OF BULK AT MOST 1048576: true; the input reads as it did. -/
def addrFindUptoRow : OpenClaim := { program := "ytmonmiadcmffgaadoor", sum := "e1de21b5db02da2cddd4d7d589001f1ecd749f0973f625a92e179a259e71c4f9", func := "dustpan/dustpanlaw04.AddrFind", spec := "addrFind", unfollowed := true, recurses := true, named := ["dustpan/config.limits", "dustpan/class.sizes"], apart := false, laid := [("dustpan/config.limits", laid_dustpan_config_limits), ("dustpan/class.sizes", laid_dustpan_class_sizes)], narrowed := true }
def AddrFindUptoSaid : Prop := addrFindUptoRow.holds Tryd.pinned (OpenSpec.upto addrFindSpec)

/-- 'dustpanlaw04.AddrApart', WHERE WHAT IT READS IS OF BULK AT MOST 1048576: true; the input reads as it did. -/
def addrApartUptoRow : OpenClaim := { program := "ytmonmiadcmffgaadoor", sum := "e1de21b5db02da2cddd4d7d589001f1ecd749f0973f625a92e179a259e71c4f9", func := "dustpan/dustpanlaw04.AddrApart", spec := "addrApart", unfollowed := true, recurses := true, named := ["dustpan/config.limits", "dustpan/class.sizes"], apart := false, laid := [("dustpan/config.limits", laid_dustpan_config_limits), ("dustpan/class.sizes", laid_dustpan_class_sizes)], narrowed := true }
def AddrApartUptoSaid : Prop := addrApartUptoRow.holds Tryd.pinned (OpenSpec.upto addrApartSpec)

/-- 'dustpanlaw02.ConfigBounds', WHERE WHAT IT READS IS OF BULK AT MOST 1048576: true; the input reads as it did. -/
def configBoundsUptoRow : OpenClaim := { program := "ytmonmiadcmffgaadoor", sum := "e1de21b5db02da2cddd4d7d589001f1ecd749f0973f625a92e179a259e71c4f9", func := "dustpan/dustpanlaw02.ConfigBounds", spec := "configBounds", unfollowed := true, recurses := true, named := ["dustpan/config.limits"], apart := false, laid := [("dustpan/config.limits", laid_dustpan_config_limits)], narrowed := true }
def ConfigBoundsUptoSaid : Prop := configBoundsUptoRow.holds Tryd.pinned (OpenSpec.upto configBoundsSpec)

/-- 'dustpanlaw02.ConfigGrows', WHERE WHAT IT READS IS OF BULK AT MOST 1048576: true; the input reads as it did. -/
def configGrowsUptoRow : OpenClaim := { program := "ytmonmiadcmffgaadoor", sum := "e1de21b5db02da2cddd4d7d589001f1ecd749f0973f625a92e179a259e71c4f9", func := "dustpan/dustpanlaw02.ConfigGrows", spec := "configGrows", unfollowed := true, recurses := true, named := ["dustpan/config.limits"], apart := false, laid := [("dustpan/config.limits", laid_dustpan_config_limits)], narrowed := true }
def ConfigGrowsUptoSaid : Prop := configGrowsUptoRow.holds Tryd.pinned (OpenSpec.upto configGrowsSpec)

/-- 'dustpanlaw04.AddrOf', WHERE WHAT IT READS IS OF BULK AT MOST 1048576: true; the input reads as it did. -/
def addrOfUptoRow : OpenClaim := { program := "ytmonmiadcmffgaadoor", sum := "e1de21b5db02da2cddd4d7d589001f1ecd749f0973f625a92e179a259e71c4f9", func := "dustpan/dustpanlaw04.AddrOf", spec := "addrOf", unfollowed := true, recurses := true, named := ["dustpan/config.limits", "dustpan/class.sizes"], apart := false, laid := [("dustpan/config.limits", laid_dustpan_config_limits), ("dustpan/class.sizes", laid_dustpan_class_sizes)], narrowed := true }
def AddrOfUptoSaid : Prop := addrOfUptoRow.holds Tryd.pinned (OpenSpec.upto addrOfSpec)

end Rows
end Go.Proofs.YtmonmiadcmffgaaDoor
