/- Slices of ints, general lemmas; no program in them. Conditions: none. -/
import Derived.Test.YtflhjbmoncbomaaGreatDoorRep
namespace Go.Proofs.YtflhjbmoncbomaaGreatDoor
open Go.RowKit

theorem IntsIn.at {w : World} {v : Value} {xs : List Int} (h : IntsIn w v xs) {k : Nat} (hk : k < xs.length) : ∃ b o cap, v = .slice (some ⟨b, o, none⟩) xs.length cap ∧ xs.length ≤ cap ∧ w.cell? ⟨b, o + k, none⟩ = some (.int .i64 (xs.getD k 0)) := by
  obtain ⟨ao, cap, rfl, h | ⟨b, o, rfl, hc, h⟩⟩ := h
  · subst h; simp at hk
  · exact ⟨b, o, cap, rfl, hc, h k hk⟩
theorem IntsIn.shape {w : World} {v : Value} {xs : List Int} (h : IntsIn w v xs) : ∃ ao cap, v = .slice ao xs.length cap := by
  obtain ⟨ao, cap, rfl, _⟩ := h
  exact ⟨ao, cap, rfl⟩
end Go.Proofs.YtflhjbmoncbomaaGreatDoor
