/- Rows of bools: general lemmas. Conditions: none. -/
import Derived.Test.YtflhjbmoncbomaaGreatDoorRep
namespace Go.Proofs.YtflhjbmoncbomaaGreatDoor
open Go.RowKit

abbrev bools (M : Nat → Bool) (n : Nat) : List Value := (List.range n).map fun k => Value.bool (M k)
theorem info_bool : (Tryz.prog.info? 4).map (fun i => (i.zero, i.size, i.bytes)) = some (some (.bool false), 1, 1) := by kernel_rfl
theorem made_bools (n : Nat) : (madeCells (Value.bool false).cells (n * 1)).toList = bools (fun _ => false) n := by
  apply List.ext_getElem?
  intro i
  simp only [madeCells, Nat.mul_one, Array.toList_map, Array.toList_range, List.getElem?_map]
  by_cases hi : i < n
  · simp [hi, Value.cells, Nat.mod_one]
  · simp [hi]
theorem bool_cell {w : World} {q size : Nat} {M : Nat → Bool} (h : RowAt w q 4 size (bools M size)) {i : Nat} (hi : i < size) : w.cell? ⟨q, i, none⟩ = some (.bool (M i)) := by
  rw [h.cell (j := i) (by simpa using hi)]
  simp

end Go.Proofs.YtflhjbmoncbomaaGreatDoor
