/- The heap's Is, walked. Conditions: none. -/
import Derived.Test.YtflhjbmoncbomaaGreatDoorHpA
namespace Go.Proofs.YtflhjbmoncbomaaGreatDoor
open Go.RowKit

variable {W w w' : World} {A : HA} {c : Cf} {S : HS}
theorem heap_Is (a : Int) (h : HpAt W w A c S) :
    Calls Tryz.prog 23 #[.pointer (some ⟨A.h, 0, none⟩), .int .i64 a] w fun e w' => e = .returned (.bool (S.obj a)) ∧ w = w' := by
  obtain ⟨cx, -, -, -, d3, -, -, -⟩ := h.cells
  have H := Lib.hid h
  clear h
  go_enter Tryz.func23, Tryz.ntmps23
  go_wp2_with (go_at_call 76; fail)
  refine (H.out.set_born a).mono ?_
  rintro e w2 ⟨rfl, rfl⟩
  go_wp2
  go_ret
  exact ⟨rfl, rfl⟩
end Go.Proofs.YtflhjbmoncbomaaGreatDoor
