/- The document's answers for classes, walked: each returns what the program's own function does. -/
import Derived.Test.YtflhjbmoncbomaaDoorClass
namespace Go.Proofs.YtflhjbmoncbomaaDoor
open Go.RowKit

theorem per_bd (x s : Int) (hx : 16 ≤ x) (hx' : x ≤ 256) (hs : 2 ≤ s) (hs' : s ≤ 16) : 0 ≤ x / s ∧ x / s ≤ 128 ∧ s * (x / s) ≤ x ∧ x < s * (x / s) + s := by
  have h1 := Int.mul_ediv_add_emod x s
  have h2 := Int.emod_nonneg x (show s ≠ 0 by omega)
  have h3 := Int.emod_lt_of_pos x (show 0 < s by omega)
  have h4 : 0 ≤ x / s := Int.ediv_nonneg (by omega) (by omega)
  refine ⟨h4, ?_, by omega, by omega⟩
  have : 2 * (x / s) ≤ s * (x / s) := Int.mul_le_mul_of_nonneg_right hs h4
  omega

end Go.Proofs.YtflhjbmoncbomaaDoor
