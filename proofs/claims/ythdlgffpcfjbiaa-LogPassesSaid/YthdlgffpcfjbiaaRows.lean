/-
  No cell of these rows narrows 'for every input' (looked for: loops, veiled, ifaces, maps, wideKeys, modest, calm, conditions, laid).
  DERIVED. THE GIVEN ROWS OF THIS SEAT. 11 by the template 'for every input the law returns true; each argument reads behind the call as it read before'; 0 by the template 'total and deterministic' (their statements: YthdlgffpcfjbiaaTotals.lean).
  GIVEN WITH THE SEED: the statements are not yours to turn. If you find one false, say at which input.
  Laid BY PROGRAM, IN A SANDBOX (cutbox-rows.mjs): the forced cells as the released guide's own fill.sh prints them over the translation 9876d2d6e939becf… (all of the seat's roots in one cut). By AI agents, Wed Nov 11 2026. No macro, syntax, notation, axiom, sorry.
-/
import Derived.Test.YthdlgffpcfjbiaaChecked
import GoSem.Claim
import GoSem.ClaimJoined
import GoSem.ClaimMapViews
import Derived.JoinedTies
import Derived.KernelRfl
namespace Go.Proofs.Ythdlgffpcfjbiaa
/- THE CELL 'sum', in the pinned program and in every row, IS THE sha256 OF THE DUMP (.gsa) THAT YthdlgffpcfjbiaaProg.lean LOADS. Nothing in Lean hashes anything: it is a label: what it is worth is what the hold of that sum in a sandbox is worth. -/
noncomputable def Try.pinned : Pinned := { name := "ythdlgffpcfjbiaa", sum := "9876d2d6e939becfd317b8ead6f40bc479a79c944791270e2741eb7b7bb4a749", checked := Try.checked }
namespace Rows
def none {H : Type} : Left H := { results := [], args := [] }

/-- 'dustpanlaw06.ArenaKeeps': WHATEVER THE INPUT: true; the input reads as it did. -/
def arenaKeepsSpec : ChangeSpec := { name := "arenaKeeps", fn := fun _ => fun
  | [d1, d2, d3] => { results := [.lit (.bool true)], args := [d1, d2, d3] }
  | _ => none }
def arenaKeepsRow : OpenClaim := { program := "ythdlgffpcfjbiaa", sum := "9876d2d6e939becfd317b8ead6f40bc479a79c944791270e2741eb7b7bb4a749", func := "dustpan/dustpanlaw06.ArenaKeeps", spec := "arenaKeeps", unfollowed := true, recurses := true, apart := false }
def ArenaKeepsSaid : Prop := arenaKeepsRow.holds Try.pinned (OpenSpec.ofChange arenaKeepsSpec)

/-- ITS FALSE NEIGHBOUR: 'it returns false'. Refute it at one input. -/
def arenaKeepsWrong : ChangeSpec := { name := "arenaKeeps", fn := fun _ => fun
  | [d1, d2, d3] => { results := [.lit (.bool false)], args := [d1, d2, d3] }
  | _ => none }
def ArenaKeepsWrongFalsely : Prop := arenaKeepsRow.holds Try.pinned (OpenSpec.ofChange arenaKeepsWrong)

/-- 'dustpanlaw09.StackTurns': WHATEVER THE INPUT: true; the input reads as it did. -/
def stackTurnsSpec : ChangeSpec := { name := "stackTurns", fn := fun _ => fun
  | [d1, d2] => { results := [.lit (.bool true)], args := [d1, d2] }
  | _ => none }
def stackTurnsRow : OpenClaim := { program := "ythdlgffpcfjbiaa", sum := "9876d2d6e939becfd317b8ead6f40bc479a79c944791270e2741eb7b7bb4a749", func := "dustpan/dustpanlaw09.StackTurns", spec := "stackTurns", unfollowed := true, recurses := true, apart := false }
def StackTurnsSaid : Prop := stackTurnsRow.holds Try.pinned (OpenSpec.ofChange stackTurnsSpec)

/-- ITS FALSE NEIGHBOUR: 'it returns false'. Refute it at one input. -/
def stackTurnsWrong : ChangeSpec := { name := "stackTurns", fn := fun _ => fun
  | [d1, d2] => { results := [.lit (.bool false)], args := [d1, d2] }
  | _ => none }
def StackTurnsWrongFalsely : Prop := stackTurnsRow.holds Try.pinned (OpenSpec.ofChange stackTurnsWrong)

/-- 'dustpanlaw09.StackCalms': WHATEVER THE INPUT: true; the input reads as it did. -/
def stackCalmsSpec : ChangeSpec := { name := "stackCalms", fn := fun _ => fun
  | [d1, d2, d3] => { results := [.lit (.bool true)], args := [d1, d2, d3] }
  | _ => none }
def stackCalmsRow : OpenClaim := { program := "ythdlgffpcfjbiaa", sum := "9876d2d6e939becfd317b8ead6f40bc479a79c944791270e2741eb7b7bb4a749", func := "dustpan/dustpanlaw09.StackCalms", spec := "stackCalms", unfollowed := true, recurses := true, apart := false }
def StackCalmsSaid : Prop := stackCalmsRow.holds Try.pinned (OpenSpec.ofChange stackCalmsSpec)

/-- ITS FALSE NEIGHBOUR: 'it returns false'. Refute it at one input. -/
def stackCalmsWrong : ChangeSpec := { name := "stackCalms", fn := fun _ => fun
  | [d1, d2, d3] => { results := [.lit (.bool false)], args := [d1, d2, d3] }
  | _ => none }
def StackCalmsWrongFalsely : Prop := stackCalmsRow.holds Try.pinned (OpenSpec.ofChange stackCalmsWrong)

/-- 'dustpanlaw09.StackPlays': WHATEVER THE INPUT: true; the input reads as it did. -/
def stackPlaysSpec : ChangeSpec := { name := "stackPlays", fn := fun _ => fun
  | [d1, d2] => { results := [.lit (.bool true)], args := [d1, d2] }
  | _ => none }
def stackPlaysRow : OpenClaim := { program := "ythdlgffpcfjbiaa", sum := "9876d2d6e939becfd317b8ead6f40bc479a79c944791270e2741eb7b7bb4a749", func := "dustpan/dustpanlaw09.StackPlays", spec := "stackPlays", unfollowed := true, recurses := true, apart := false }
def StackPlaysSaid : Prop := stackPlaysRow.holds Try.pinned (OpenSpec.ofChange stackPlaysSpec)

/-- ITS FALSE NEIGHBOUR: 'it returns false'. Refute it at one input. -/
def stackPlaysWrong : ChangeSpec := { name := "stackPlays", fn := fun _ => fun
  | [d1, d2] => { results := [.lit (.bool false)], args := [d1, d2] }
  | _ => none }
def StackPlaysWrongFalsely : Prop := stackPlaysRow.holds Try.pinned (OpenSpec.ofChange stackPlaysWrong)

/-- 'dustpanlaw09.StackNone': WHATEVER THE INPUT: true; the input reads as it did. -/
def stackNoneSpec : ChangeSpec := { name := "stackNone", fn := fun _ => fun
  | [d1, d2] => { results := [.lit (.bool true)], args := [d1, d2] }
  | _ => none }
def stackNoneRow : OpenClaim := { program := "ythdlgffpcfjbiaa", sum := "9876d2d6e939becfd317b8ead6f40bc479a79c944791270e2741eb7b7bb4a749", func := "dustpan/dustpanlaw09.StackNone", spec := "stackNone", unfollowed := true, recurses := true, apart := false }
def StackNoneSaid : Prop := stackNoneRow.holds Try.pinned (OpenSpec.ofChange stackNoneSpec)

/-- ITS FALSE NEIGHBOUR: 'it returns false'. Refute it at one input. -/
def stackNoneWrong : ChangeSpec := { name := "stackNone", fn := fun _ => fun
  | [d1, d2] => { results := [.lit (.bool false)], args := [d1, d2] }
  | _ => none }
def StackNoneWrongFalsely : Prop := stackNoneRow.holds Try.pinned (OpenSpec.ofChange stackNoneWrong)

/-- 'dustpanlaw10.LogPasses': WHATEVER THE INPUT: true; the input reads as it did. -/
def logPassesSpec : ChangeSpec := { name := "logPasses", fn := fun _ => fun
  | [d1, d2] => { results := [.lit (.bool true)], args := [d1, d2] }
  | _ => none }
def logPassesRow : OpenClaim := { program := "ythdlgffpcfjbiaa", sum := "9876d2d6e939becfd317b8ead6f40bc479a79c944791270e2741eb7b7bb4a749", func := "dustpan/dustpanlaw10.LogPasses", spec := "logPasses", apart := false }
def LogPassesSaid : Prop := logPassesRow.holds Try.pinned (OpenSpec.ofChange logPassesSpec)

/-- ITS FALSE NEIGHBOUR: 'it returns false'. Refute it at one input. -/
def logPassesWrong : ChangeSpec := { name := "logPasses", fn := fun _ => fun
  | [d1, d2] => { results := [.lit (.bool false)], args := [d1, d2] }
  | _ => none }
def LogPassesWrongFalsely : Prop := logPassesRow.holds Try.pinned (OpenSpec.ofChange logPassesWrong)

/-- 'dustpanlaw06.ArenaCounts': WHATEVER THE INPUT: true; the input reads as it did. -/
def arenaCountsSpec : ChangeSpec := { name := "arenaCounts", fn := fun _ => fun
  | [d1, d2] => { results := [.lit (.bool true)], args := [d1, d2] }
  | _ => none }
def arenaCountsRow : OpenClaim := { program := "ythdlgffpcfjbiaa", sum := "9876d2d6e939becfd317b8ead6f40bc479a79c944791270e2741eb7b7bb4a749", func := "dustpan/dustpanlaw06.ArenaCounts", spec := "arenaCounts", unfollowed := true, recurses := true, apart := false }
def ArenaCountsSaid : Prop := arenaCountsRow.holds Try.pinned (OpenSpec.ofChange arenaCountsSpec)

/-- ITS FALSE NEIGHBOUR: 'it returns false'. Refute it at one input. -/
def arenaCountsWrong : ChangeSpec := { name := "arenaCounts", fn := fun _ => fun
  | [d1, d2] => { results := [.lit (.bool false)], args := [d1, d2] }
  | _ => none }
def ArenaCountsWrongFalsely : Prop := arenaCountsRow.holds Try.pinned (OpenSpec.ofChange arenaCountsWrong)

/-- 'dustpanlaw06.ArenaPlays': WHATEVER THE INPUT: true; the input reads as it did. -/
def arenaPlaysSpec : ChangeSpec := { name := "arenaPlays", fn := fun _ => fun
  | [d1, d2, d3] => { results := [.lit (.bool true)], args := [d1, d2, d3] }
  | _ => none }
def arenaPlaysRow : OpenClaim := { program := "ythdlgffpcfjbiaa", sum := "9876d2d6e939becfd317b8ead6f40bc479a79c944791270e2741eb7b7bb4a749", func := "dustpan/dustpanlaw06.ArenaPlays", spec := "arenaPlays", unfollowed := true, recurses := true, apart := false }
def ArenaPlaysSaid : Prop := arenaPlaysRow.holds Try.pinned (OpenSpec.ofChange arenaPlaysSpec)

/-- ITS FALSE NEIGHBOUR: 'it returns false'. Refute it at one input. -/
def arenaPlaysWrong : ChangeSpec := { name := "arenaPlays", fn := fun _ => fun
  | [d1, d2, d3] => { results := [.lit (.bool false)], args := [d1, d2, d3] }
  | _ => none }
def ArenaPlaysWrongFalsely : Prop := arenaPlaysRow.holds Try.pinned (OpenSpec.ofChange arenaPlaysWrong)

/-- 'dustpanlaw06.ArenaNone': WHATEVER THE INPUT: true; the input reads as it did. -/
def arenaNoneSpec : ChangeSpec := { name := "arenaNone", fn := fun _ => fun
  | [d1, d2, d3] => { results := [.lit (.bool true)], args := [d1, d2, d3] }
  | _ => none }
def arenaNoneRow : OpenClaim := { program := "ythdlgffpcfjbiaa", sum := "9876d2d6e939becfd317b8ead6f40bc479a79c944791270e2741eb7b7bb4a749", func := "dustpan/dustpanlaw06.ArenaNone", spec := "arenaNone", unfollowed := true, recurses := true, apart := false }
def ArenaNoneSaid : Prop := arenaNoneRow.holds Try.pinned (OpenSpec.ofChange arenaNoneSpec)

/-- ITS FALSE NEIGHBOUR: 'it returns false'. Refute it at one input. -/
def arenaNoneWrong : ChangeSpec := { name := "arenaNone", fn := fun _ => fun
  | [d1, d2, d3] => { results := [.lit (.bool false)], args := [d1, d2, d3] }
  | _ => none }
def ArenaNoneWrongFalsely : Prop := arenaNoneRow.holds Try.pinned (OpenSpec.ofChange arenaNoneWrong)

/-- 'dustpanlaw10.LogPlays': WHATEVER THE INPUT: true; the input reads as it did. -/
def logPlaysSpec : ChangeSpec := { name := "logPlays", fn := fun _ => fun
  | [d1, d2] => { results := [.lit (.bool true)], args := [d1, d2] }
  | _ => none }
def logPlaysRow : OpenClaim := { program := "ythdlgffpcfjbiaa", sum := "9876d2d6e939becfd317b8ead6f40bc479a79c944791270e2741eb7b7bb4a749", func := "dustpan/dustpanlaw10.LogPlays", spec := "logPlays", apart := false }
def LogPlaysSaid : Prop := logPlaysRow.holds Try.pinned (OpenSpec.ofChange logPlaysSpec)

/-- ITS FALSE NEIGHBOUR: 'it returns false'. Refute it at one input. -/
def logPlaysWrong : ChangeSpec := { name := "logPlays", fn := fun _ => fun
  | [d1, d2] => { results := [.lit (.bool false)], args := [d1, d2] }
  | _ => none }
def LogPlaysWrongFalsely : Prop := logPlaysRow.holds Try.pinned (OpenSpec.ofChange logPlaysWrong)

/-- 'dustpanlaw10.LogNone': WHATEVER THE INPUT: true; the input reads as it did. -/
def logNoneSpec : ChangeSpec := { name := "logNone", fn := fun _ => fun
  | [d1, d2] => { results := [.lit (.bool true)], args := [d1, d2] }
  | _ => none }
def logNoneRow : OpenClaim := { program := "ythdlgffpcfjbiaa", sum := "9876d2d6e939becfd317b8ead6f40bc479a79c944791270e2741eb7b7bb4a749", func := "dustpan/dustpanlaw10.LogNone", spec := "logNone", apart := false }
def LogNoneSaid : Prop := logNoneRow.holds Try.pinned (OpenSpec.ofChange logNoneSpec)

/-- ITS FALSE NEIGHBOUR: 'it returns false'. Refute it at one input. -/
def logNoneWrong : ChangeSpec := { name := "logNone", fn := fun _ => fun
  | [d1, d2] => { results := [.lit (.bool false)], args := [d1, d2] }
  | _ => none }
def LogNoneWrongFalsely : Prop := logNoneRow.holds Try.pinned (OpenSpec.ofChange logNoneWrong)

/- THE SECOND FORM. 'bulk': how many values and letters a reading holds, each counted each time it is reached (what is shared counts as often as it is met; a slice's spare places count too). A statement '..UptoSaid' is the law's where the arguments, and the package variables that the reading takes, are together of bulk at most 1048576: NARROWER than '..Said'. Prove '..Said' where nothing that the law and all that it calls make is longer than what came in: it says more and counts as full. Else prove '..UptoSaid'. A law counts once. -/
mutual
def uptoBulk {H : Type} : DataW H → Nat
  | .lit (.string bytes) => bytes.length + 1
  | .lit _ => 1
  | .nil => 1
  | .ptr d => uptoBulk d + 1
  | .slice elems spare => uptoBulkAll elems + uptoBulkAll spare + 1
  | .agg parts => uptoBulkAll parts + 1
  | .iface _ d => uptoBulk d + 1
  | .map entries => uptoBulkEntries entries + 1
  | .held _ => 1
def uptoBulkAll {H : Type} : List (DataW H) → Nat
  | [] => 0
  | d :: r => uptoBulk d + uptoBulkAll r
def uptoBulkEntries {H : Type} : List (Lit × DataW H) → Nat
  | [] => 0
  | x :: r => uptoBulkEntry x + uptoBulkEntries r
def uptoBulkEntry {H : Type} : Lit × DataW H → Nat
  | (.string bytes, d) => bytes.length + uptoBulk d + 1
  | (_, d) => uptoBulk d + 1
 end
def uptoSmall : (H : Type) → List (DataW H) → Bool := fun _ ds => decide (uptoBulkAll ds ≤ 1048576)
def OpenSpec.upto (s : _root_.Go.ChangeSpec) : _root_.Go.OpenSpec := { _root_.Go.OpenSpec.ofChange s with cond := some uptoSmall }

/-- 'dustpanlaw06.ArenaKeeps', WHERE WHAT IT READS IS OF BULK AT MOST 1048576: true; the input reads as it did. -/
def arenaKeepsUptoRow : OpenClaim := { program := "ythdlgffpcfjbiaa", sum := "9876d2d6e939becfd317b8ead6f40bc479a79c944791270e2741eb7b7bb4a749", func := "dustpan/dustpanlaw06.ArenaKeeps", spec := "arenaKeeps", unfollowed := true, recurses := true, apart := false, narrowed := true }
def ArenaKeepsUptoSaid : Prop := arenaKeepsUptoRow.holds Try.pinned (OpenSpec.upto arenaKeepsSpec)

/-- 'dustpanlaw09.StackTurns', WHERE WHAT IT READS IS OF BULK AT MOST 1048576: true; the input reads as it did. -/
def stackTurnsUptoRow : OpenClaim := { program := "ythdlgffpcfjbiaa", sum := "9876d2d6e939becfd317b8ead6f40bc479a79c944791270e2741eb7b7bb4a749", func := "dustpan/dustpanlaw09.StackTurns", spec := "stackTurns", unfollowed := true, recurses := true, apart := false, narrowed := true }
def StackTurnsUptoSaid : Prop := stackTurnsUptoRow.holds Try.pinned (OpenSpec.upto stackTurnsSpec)

/-- 'dustpanlaw09.StackCalms', WHERE WHAT IT READS IS OF BULK AT MOST 1048576: true; the input reads as it did. -/
def stackCalmsUptoRow : OpenClaim := { program := "ythdlgffpcfjbiaa", sum := "9876d2d6e939becfd317b8ead6f40bc479a79c944791270e2741eb7b7bb4a749", func := "dustpan/dustpanlaw09.StackCalms", spec := "stackCalms", unfollowed := true, recurses := true, apart := false, narrowed := true }
def StackCalmsUptoSaid : Prop := stackCalmsUptoRow.holds Try.pinned (OpenSpec.upto stackCalmsSpec)

/-- 'dustpanlaw09.StackPlays', WHERE WHAT IT READS IS OF BULK AT MOST 1048576: true; the input reads as it did. -/
def stackPlaysUptoRow : OpenClaim := { program := "ythdlgffpcfjbiaa", sum := "9876d2d6e939becfd317b8ead6f40bc479a79c944791270e2741eb7b7bb4a749", func := "dustpan/dustpanlaw09.StackPlays", spec := "stackPlays", unfollowed := true, recurses := true, apart := false, narrowed := true }
def StackPlaysUptoSaid : Prop := stackPlaysUptoRow.holds Try.pinned (OpenSpec.upto stackPlaysSpec)

/-- 'dustpanlaw09.StackNone', WHERE WHAT IT READS IS OF BULK AT MOST 1048576: true; the input reads as it did. -/
def stackNoneUptoRow : OpenClaim := { program := "ythdlgffpcfjbiaa", sum := "9876d2d6e939becfd317b8ead6f40bc479a79c944791270e2741eb7b7bb4a749", func := "dustpan/dustpanlaw09.StackNone", spec := "stackNone", unfollowed := true, recurses := true, apart := false, narrowed := true }
def StackNoneUptoSaid : Prop := stackNoneUptoRow.holds Try.pinned (OpenSpec.upto stackNoneSpec)

/-- 'dustpanlaw10.LogPasses', WHERE WHAT IT READS IS OF BULK AT MOST 1048576: true; the input reads as it did. -/
def logPassesUptoRow : OpenClaim := { program := "ythdlgffpcfjbiaa", sum := "9876d2d6e939becfd317b8ead6f40bc479a79c944791270e2741eb7b7bb4a749", func := "dustpan/dustpanlaw10.LogPasses", spec := "logPasses", apart := false, narrowed := true }
def LogPassesUptoSaid : Prop := logPassesUptoRow.holds Try.pinned (OpenSpec.upto logPassesSpec)

/-- 'dustpanlaw06.ArenaCounts', WHERE WHAT IT READS IS OF BULK AT MOST 1048576: true; the input reads as it did. -/
def arenaCountsUptoRow : OpenClaim := { program := "ythdlgffpcfjbiaa", sum := "9876d2d6e939becfd317b8ead6f40bc479a79c944791270e2741eb7b7bb4a749", func := "dustpan/dustpanlaw06.ArenaCounts", spec := "arenaCounts", unfollowed := true, recurses := true, apart := false, narrowed := true }
def ArenaCountsUptoSaid : Prop := arenaCountsUptoRow.holds Try.pinned (OpenSpec.upto arenaCountsSpec)

/-- 'dustpanlaw06.ArenaPlays', WHERE WHAT IT READS IS OF BULK AT MOST 1048576: true; the input reads as it did. -/
def arenaPlaysUptoRow : OpenClaim := { program := "ythdlgffpcfjbiaa", sum := "9876d2d6e939becfd317b8ead6f40bc479a79c944791270e2741eb7b7bb4a749", func := "dustpan/dustpanlaw06.ArenaPlays", spec := "arenaPlays", unfollowed := true, recurses := true, apart := false, narrowed := true }
def ArenaPlaysUptoSaid : Prop := arenaPlaysUptoRow.holds Try.pinned (OpenSpec.upto arenaPlaysSpec)

/-- 'dustpanlaw06.ArenaNone', WHERE WHAT IT READS IS OF BULK AT MOST 1048576: true; the input reads as it did. -/
def arenaNoneUptoRow : OpenClaim := { program := "ythdlgffpcfjbiaa", sum := "9876d2d6e939becfd317b8ead6f40bc479a79c944791270e2741eb7b7bb4a749", func := "dustpan/dustpanlaw06.ArenaNone", spec := "arenaNone", unfollowed := true, recurses := true, apart := false, narrowed := true }
def ArenaNoneUptoSaid : Prop := arenaNoneUptoRow.holds Try.pinned (OpenSpec.upto arenaNoneSpec)

/-- 'dustpanlaw10.LogPlays', WHERE WHAT IT READS IS OF BULK AT MOST 1048576: true; the input reads as it did. -/
def logPlaysUptoRow : OpenClaim := { program := "ythdlgffpcfjbiaa", sum := "9876d2d6e939becfd317b8ead6f40bc479a79c944791270e2741eb7b7bb4a749", func := "dustpan/dustpanlaw10.LogPlays", spec := "logPlays", apart := false, narrowed := true }
def LogPlaysUptoSaid : Prop := logPlaysUptoRow.holds Try.pinned (OpenSpec.upto logPlaysSpec)

/-- 'dustpanlaw10.LogNone', WHERE WHAT IT READS IS OF BULK AT MOST 1048576: true; the input reads as it did. -/
def logNoneUptoRow : OpenClaim := { program := "ythdlgffpcfjbiaa", sum := "9876d2d6e939becfd317b8ead6f40bc479a79c944791270e2741eb7b7bb4a749", func := "dustpan/dustpanlaw10.LogNone", spec := "logNone", apart := false, narrowed := true }
def LogNoneUptoSaid : Prop := logNoneUptoRow.holds Try.pinned (OpenSpec.upto logNoneSpec)

end Rows
end Go.Proofs.Ythdlgffpcfjbiaa
