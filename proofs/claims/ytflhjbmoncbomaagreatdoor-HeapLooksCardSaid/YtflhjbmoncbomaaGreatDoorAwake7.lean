/- Tables of blocks: the law's example, and the document's slots, walked. Conditions: the tables of limits and of sizes read as laid. -/
import Derived.Test.YtflhjbmoncbomaaGreatDoorBlkList
import Derived.Test.YtflhjbmoncbomaaGreatDoorLittle
import Derived.Test.YtflhjbmoncbomaaGreatDoorFind
namespace Go.Proofs.YtflhjbmoncbomaaGreatDoor
open Go.RowKit

/-- A table that is new. -/
structure OneB (w wr : World) (p q cap n : Nat) (c : Cf) (ks : List Int) : Prop where
  touch : Touch nob w wr
  hp : w.heap.size ≤ p
  hq : w.heap.size ≤ q
  blk : BlkAt wr p q cap n c ks
variable {w wr : World} {p q cap n : Nat} {c : Cf} {ks : List Int}
theorem OneB.step {w' : World} (h : OneB w wr p q cap n c ks) (ht : Touch nob wr w') : OneB w w' p q cap n c ks := ⟨h.touch.trans ht, h.hp, h.hq, h.blk.old ht⟩
theorem oneb_New (c : Cf) (w wr : World) (hT : Touch nob w wr) (hL : Laid w) (hc : c.ok = true) (n : Nat) (hn : (n : Int) = c.c0) :
    Calls Tryz.prog 56 #[c.V] wr fun e w' => ∃ p q, e = .returned (.tuple #[.pointer (some ⟨p, 0, none⟩), .int .i64 0]) ∧ OneB w w' p q n n c [] :=
  (block_New_ok c wr (hL.old hT).lim hc n hn).mono fun _ _ ⟨p, q, h1, h2, h3, h4, h5⟩ => ⟨p, q, h1, hT.trans h2, Nat.le_trans hT.size h3, Nat.le_trans hT.size h4, h5⟩
theorem oneb_Assign (k : Int) (h : OneB w wr p q cap n c ks) (hk : isCls k = true) (hf : ks.length < n) :
    Calls Tryz.prog 85 #[.pointer (some ⟨p, 0, none⟩), .int .i64 k] wr fun e w' => e = .returned (.tuple #[.int .i64 ks.length, .int .i64 0]) ∧ OneB w w' p q cap n c (ks ++ [k]) :=
  (blk_Assign_ok k h.blk hk hf).mono fun _ _ ⟨g1, g2, g3⟩ => ⟨g1, h.touch.step g2 (fun i hi => .inr (by rw [hi]; exact h.hq)), h.hp, h.hq, g3⟩
def awakeC : Cf := ⟨2, 16, 1, 1, 0, 1, 1⟩
end Go.Proofs.YtflhjbmoncbomaaGreatDoor
