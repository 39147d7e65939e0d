/- Slices of ints, general lemmas; no program in them. Conditions: none. The document's comparison of lists, walked. Conditions: none. Storing seven cells: general lemmas; no program in them. Conditions: none. Rows of bools: general lemmas. Conditions: none. append, by a name that the walk does not open. Conditions: none. -/
import Derived.Test.YtflhjbmoncbomaaGreatDoorRep
import Derived.Test.YtflhjbmoncbomaaGreatDoorProg
import Derived.Deep.QuietTactic
import Derived.BigQuiet
namespace Go.Proofs.YtflhjbmoncbomaaGreatDoor
open Go.RowKit

theorem IntsIn.at {w : World} {v : Value} {xs : List Int} (h : IntsIn w v xs) {k : Nat} (hk : k < xs.length) : ∃ b o cap, v = .slice (some ⟨b, o, none⟩) xs.length cap ∧ xs.length ≤ cap ∧ w.cell? ⟨b, o + k, none⟩ = some (.int .i64 (xs.getD k 0)) := by
  obtain ⟨ao, cap, rfl, h | ⟨b, o, rfl, hc, h⟩⟩ := h
  · subst h; simp at hk
  · exact ⟨b, o, cap, rfl, hc, h k hk⟩
theorem IntsIn.shape {w : World} {v : Value} {xs : List Int} (h : IntsIn w v xs) : ∃ ao cap, v = .slice ao xs.length cap := by
  obtain ⟨ao, cap, rfl, _⟩ := h
  exact ⟨ao, cap, rfl⟩
end Go.Proofs.YtflhjbmoncbomaaGreatDoor
namespace Go.Proofs.YtflhjbmoncbomaaGreatDoor
open Go.RowKit

theorem ref01_Same (v1 v2 : Value) (xs : List Int) (w : World) (h1 : IntsIn w v1 xs) (h2 : IntsIn w v2 xs) (hn : xs.length ≤ 1048576) :
    Calls Tryz.prog 52 #[v1, v2] w fun e w' => e = .returned (.bool true) ∧ Touch nob w w' := by
  obtain ⟨ao1, c1, rfl, h1⟩ := h1
  obtain ⟨ao2, c2, rfl, h2⟩ := h2
  obtain ⟨n, hl⟩ : ∃ n, xs.length = n := ⟨_, rfl⟩
  have H1 := Lib.hid h1
  have H2 := Lib.hid h2
  rw [hl] at hn ⊢
  have HL := Lib.hid hl
  clear h1 h2 hl
  go_enter Tryz.func52, Tryz.ntmps52
  go_wp2_with fail
  go_loopw [5] (fun i wr => ∃ k : Nat, k ≤ n ∧ i = .int .i64 k ∧ Touch nob w wr) (fun i _ => n - (intOf i).toNat)
  case atStart => exact ⟨0, by omega, rfl, Touch.refl _ _⟩
  case round =>
    obtain ⟨k, hk, rfl, hT⟩ := hrel
    by_cases hlt : k < n
    · have hne : ¬ xs = [] := by intro h; have := HL.out; rw [h] at this; simp at this; omega
      obtain ⟨b1, o1, e1, cc1, q1⟩ := H1.out.resolve_left hne
      obtain ⟨b2, o2, e2, cc2, q2⟩ := H2.out.resolve_left hne
      subst e1 e2
      have z1 := q1 k (by rw [HL.out]; exact hlt)
      have z2 := q2 k (by rw [HL.out]; exact hlt)
      have y1 := (hT.cell (cell_lt z1) (fun x => x)).trans z1
      have y2 := (hT.cell (cell_lt z2) (fun x => x)).trans z2
      obtain ⟨y, hy⟩ : ∃ y, xs.getD k 0 = y := ⟨_, rfl⟩
      rw [hy] at y1 y2
      rw [HL.out] at cc1 cc2
      have hb : (k : Int) < (n : Int) := by omega
      clear q1 q2 z1 z2 hy hne
      go_wp2_with fail
      go_quiet (fail)
      go_wp2
      go_roundw
      case rel => exact ⟨k + 1, by omega, by go_num, hT.drewN _⟩
      case measure => simp [intOf]; omega
    · obtain rfl : k = n := by omega
      go_wp2
      go_ret
      exact ⟨rfl, hT⟩
end Go.Proofs.YtflhjbmoncbomaaGreatDoor
namespace Go.Proofs.YtflhjbmoncbomaaGreatDoor
open Go.RowKit

abbrev set7 (W : World) (b : Nat) (v0 v1 v2 v3 v4 v5 v6 : Value) : World := ((((((W.setCell ⟨b, 0, none⟩ v0).setCell ⟨b, 1, none⟩ v1).setCell ⟨b, 2, none⟩ v2).setCell ⟨b, 3, none⟩ v3).setCell ⟨b, 4, none⟩ v4).setCell ⟨b, 5, none⟩ v5).setCell ⟨b, 6, none⟩ v6
theorem set7_at (W : World) {b : Nat} {t : TypeId} {o0 o1 o2 o3 o4 o5 o6 : Value} (v0 v1 v2 v3 v4 v5 v6 : Value) (h : W.heap[b]? = some (Obj.cells #[o0, o1, o2, o3, o4, o5, o6] t)) : (set7 W b v0 v1 v2 v3 v4 v5 v6).heap[b]? = some (Obj.cells #[v0, v1, v2, v3, v4, v5, v6] t) := by
  have h6 := set_cells 6 v6 (set_cells 5 v5 (set_cells 4 v4 (set_cells 3 v3 (set_cells 2 v2 (set_cells 1 v1 (set_cells 0 v0 h))))))
  rw [show ((((((#[o0, o1, o2, o3, o4, o5, o6].setIfInBounds 0 v0).setIfInBounds 1 v1).setIfInBounds 2 v2).setIfInBounds 3 v3).setIfInBounds 4 v4).setIfInBounds 5 v5).setIfInBounds 6 v6 = #[v0, v1, v2, v3, v4, v5, v6] by simp] at h6
  exact h6
theorem set7_other (W : World) {b c : Nat} (v0 v1 v2 v3 v4 v5 v6 : Value) (h : c ≠ b) : (set7 W b v0 v1 v2 v3 v4 v5 v6).heap[c]? = W.heap[c]? :=
  (set_other _ h).trans ((set_other _ h).trans ((set_other _ h).trans ((set_other _ h).trans ((set_other _ h).trans ((set_other _ h).trans (set_other _ h))))))
theorem set7_touch {S : Nat → Prop} {w W : World} {b : Nat} (v0 v1 v2 v3 v4 v5 v6 : Value) (hb : w.heap.size ≤ b) (h : Touch S w W) : Touch S w (set7 W b v0 v1 v2 v3 v4 v5 v6) :=
  ((((((h.setCell (.inr hb) _).setCell (.inr hb) _).setCell (.inr hb) _).setCell (.inr hb) _).setCell (.inr hb) _).setCell (.inr hb) _).setCell (.inr hb) _
end Go.Proofs.YtflhjbmoncbomaaGreatDoor
namespace Go.Proofs.YtflhjbmoncbomaaGreatDoor
open Go.RowKit

abbrev bools (M : Nat → Bool) (n : Nat) : List Value := (List.range n).map fun k => Value.bool (M k)
theorem info_bool : (Tryz.prog.info? 4).map (fun i => (i.zero, i.size, i.bytes)) = some (some (.bool false), 1, 1) := by kernel_rfl
theorem made_bools (n : Nat) : (madeCells (Value.bool false).cells (n * 1)).toList = bools (fun _ => false) n := by
  apply List.ext_getElem?
  intro i
  simp only [madeCells, Nat.mul_one, Array.toList_map, Array.toList_range, List.getElem?_map]
  by_cases hi : i < n
  · simp [hi, Value.cells, Nat.mod_one]
  · simp [hi]
theorem bool_cell {w : World} {q size : Nat} {M : Nat → Bool} (h : RowAt w q 4 size (bools M size)) {i : Nat} (hi : i < size) : w.cell? ⟨q, i, none⟩ = some (.bool (M i)) := by
  rw [h.cell (j := i) (by simpa using hi)]
  simp

end Go.Proofs.YtflhjbmoncbomaaGreatDoor
namespace Go.Proofs.YtflhjbmoncbomaaGreatDoor
open Go.RowKit

/-- append, by a name that the walk does not open. -/
def Appd (ats : Array TypeId) (ty : TypeId) (args : Array Value) : Sem Value := Builtin.append_ ats ty args
theorem builtin_appd (ats : Array TypeId) (ty : TypeId) (cs : Array Bool) (args : Array Value) : builtin .append ats ty cs args = (do pure (.value (← Appd ats ty args))) := rfl
end Go.Proofs.YtflhjbmoncbomaaGreatDoor
