/- What is laid: sizes, limits; boxes of configs. Conditions: none. -/
import Derived.Test.YtflhjbmoncbomaaGreatDoorRef03
import Derived.Test.YtflhjbmoncbomaaGreatDoorRef02
namespace Go.Proofs.YtflhjbmoncbomaaGreatDoor
open Go.RowKit

theorem gSizes : Tryz.prog.globalNamed "dustpan/class.sizes" = some 1 := by kernel_rfl
theorem tSizes : (Tryz.prog.globals[1]?).map (·.type) = some 139 := by kernel_rfl
theorem sizes_of_cells {w : World} (h : ∀ i, w.cell? ⟨1, i, none⟩ = [Value.int .i64 2, .int .i64 4, .int .i64 8, .int .i64 16][i]?) : Sizes w := ⟨h 0, h 1, h 2, h 3⟩

theorem per_facts (x k : Int) (hk : isCls k = true) (h : 16 ≤ x) (h' : x ≤ 256) :
    1 ≤ perBlock x k ∧ perBlock x k ≤ 128 ∧ perBlock x k * clsSize k ≤ x ∧ x < (perBlock x k + 1) * clsSize k := by
  have hs := clsSize_lo hk
  have hs' := (clsSize_bd k).2
  obtain ⟨p0, p1, p2, p3⟩ := per_bd x (clsSize k) h h' hs hs'
  have hpb : perBlock x k = x / clsSize k := by unfold perBlock; rw [hk, show wordsOk x = true by unfold wordsOk; simp; omega]; rfl
  rw [← hpb] at p0 p1 p2 p3
  rw [Int.mul_comm] at p2 p3
  refine ⟨?_, p1, p2, by rw [Int.add_mul]; omega⟩
  rcases (show perBlock x k < 1 ∨ 1 ≤ perBlock x k by omega) with h | h
  · have : perBlock x k = 0 := by omega
    rw [this] at p3; omega
  · exact h

/-- A config's box: seven cells. -/
abbrev CfgRow (c0 c1 c2 c3 c4 c5 c6 : Int) : Array Value := #[.int .i64 c0, .int .i64 c1, .int .i64 c2, .int .i64 c3, .int .i64 c4, .int .i64 c5, .int .i64 c6]
theorem cfg_box {W : World} {b : Nat} {t : TypeId} {c0 c1 c2 c3 c4 c5 c6 : Int} (h : W.heap[b]? = some (Obj.cells (CfgRow c0 c1 c2 c3 c4 c5 c6) t)) {w' : World} (ht : Touch nob W w') :
    w'.cell? ⟨b, 0, none⟩ = some (.int .i64 c0) ∧ w'.cell? ⟨b, 1, none⟩ = some (.int .i64 c1) ∧ w'.cell? ⟨b, 2, none⟩ = some (.int .i64 c2) ∧ w'.cell? ⟨b, 3, none⟩ = some (.int .i64 c3) ∧ w'.cell? ⟨b, 4, none⟩ = some (.int .i64 c4) ∧ w'.cell? ⟨b, 5, none⟩ = some (.int .i64 c5) ∧ w'.cell? ⟨b, 6, none⟩ = some (.int .i64 c6) := by
  have hb := (Array.getElem?_eq_some_iff.1 h).1
  have e := (ht.block b hb (fun x => x)).trans h
  simp [World.cell?, e]

end Go.Proofs.YtflhjbmoncbomaaGreatDoor
