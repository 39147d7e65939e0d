/- Storing seven cells: general lemmas; no program in them. Conditions: none. -/
import Derived.Test.YtflhjbmoncbomaaGreatDoorRep
namespace Go.Proofs.YtflhjbmoncbomaaGreatDoor
open Go.RowKit

abbrev set7 (W : World) (b : Nat) (v0 v1 v2 v3 v4 v5 v6 : Value) : World := ((((((W.setCell ⟨b, 0, none⟩ v0).setCell ⟨b, 1, none⟩ v1).setCell ⟨b, 2, none⟩ v2).setCell ⟨b, 3, none⟩ v3).setCell ⟨b, 4, none⟩ v4).setCell ⟨b, 5, none⟩ v5).setCell ⟨b, 6, none⟩ v6
theorem set7_at (W : World) {b : Nat} {t : TypeId} {o0 o1 o2 o3 o4 o5 o6 : Value} (v0 v1 v2 v3 v4 v5 v6 : Value) (h : W.heap[b]? = some (Obj.cells #[o0, o1, o2, o3, o4, o5, o6] t)) : (set7 W b v0 v1 v2 v3 v4 v5 v6).heap[b]? = some (Obj.cells #[v0, v1, v2, v3, v4, v5, v6] t) := by
  have h6 := set_cells 6 v6 (set_cells 5 v5 (set_cells 4 v4 (set_cells 3 v3 (set_cells 2 v2 (set_cells 1 v1 (set_cells 0 v0 h))))))
  rw [show ((((((#[o0, o1, o2, o3, o4, o5, o6].setIfInBounds 0 v0).setIfInBounds 1 v1).setIfInBounds 2 v2).setIfInBounds 3 v3).setIfInBounds 4 v4).setIfInBounds 5 v5).setIfInBounds 6 v6 = #[v0, v1, v2, v3, v4, v5, v6] by simp] at h6
  exact h6
theorem set7_other (W : World) {b c : Nat} (v0 v1 v2 v3 v4 v5 v6 : Value) (h : c ≠ b) : (set7 W b v0 v1 v2 v3 v4 v5 v6).heap[c]? = W.heap[c]? :=
  (set_other _ h).trans ((set_other _ h).trans ((set_other _ h).trans ((set_other _ h).trans ((set_other _ h).trans ((set_other _ h).trans (set_other _ h))))))
theorem set7_touch {S : Nat → Prop} {w W : World} {b : Nat} (v0 v1 v2 v3 v4 v5 v6 : Value) (hb : w.heap.size ≤ b) (h : Touch S w W) : Touch S w (set7 W b v0 v1 v2 v3 v4 v5 v6) :=
  ((((((h.setCell (.inr hb) _).setCell (.inr hb) _).setCell (.inr hb) _).setCell (.inr hb) _).setCell (.inr hb) _).setCell (.inr hb) _).setCell (.inr hb) _
end Go.Proofs.YtflhjbmoncbomaaGreatDoor
