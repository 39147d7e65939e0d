/- Sets of numbers: Same, walked. Conditions: none beyond what each says. Sets of numbers: Same, and the law's example, walked. Conditions: none beyond what each says. -/
import Derived.Test.YtflhjbmoncbomaaGreatDoorSet
import Derived.Deep.RegionHeld3
namespace Go.Proofs.YtflhjbmoncbomaaGreatDoor
open Go.RowKit

variable {w : World} {p q cap p' q' cap' : Nat} {ws us : List Nat} {size size' : Nat} {M M' : Nat → Bool}
end Go.Proofs.YtflhjbmoncbomaaGreatDoor
namespace Go.Proofs.YtflhjbmoncbomaaGreatDoor
open Go.RowKit

variable {w : World} {p q cap p' q' cap' : Nat} {ws us : List Nat} {size size' : Nat} {M M' : Nat → Bool}
/-- Whether two sets are the same. -/
def sameB (ws us : List Nat) (size size' : Nat) : Bool := decide (size = size') && decide (ws = us)
theorem words_le (h : SetAt w p q cap ws size M) : ws.length ≤ 1048576 := by have := h.rep.len; have := h.le; omega
end Go.Proofs.YtflhjbmoncbomaaGreatDoor
