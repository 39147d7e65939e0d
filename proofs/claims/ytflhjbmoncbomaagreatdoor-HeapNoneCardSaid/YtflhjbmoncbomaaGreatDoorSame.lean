/- The document's comparison of lists, walked. Conditions: none. -/
import Derived.Test.YtflhjbmoncbomaaGreatDoorProg
import Derived.Test.YtflhjbmoncbomaaGreatDoorRep
import Derived.Deep.QuietTactic
import Derived.BigQuiet
namespace Go.Proofs.YtflhjbmoncbomaaGreatDoor
open Go.RowKit

theorem ref01_Same (v1 v2 : Value) (xs : List Int) (w : World) (h1 : IntsIn w v1 xs) (h2 : IntsIn w v2 xs) (hn : xs.length ≤ 1048576) :
    Calls Tryz.prog 52 #[v1, v2] w fun e w' => e = .returned (.bool true) ∧ Touch nob w w' := by
  obtain ⟨ao1, c1, rfl, h1⟩ := h1
  obtain ⟨ao2, c2, rfl, h2⟩ := h2
  obtain ⟨n, hl⟩ : ∃ n, xs.length = n := ⟨_, rfl⟩
  have H1 := Lib.hid h1
  have H2 := Lib.hid h2
  rw [hl] at hn ⊢
  have HL := Lib.hid hl
  clear h1 h2 hl
  go_enter Tryz.func52, Tryz.ntmps52
  go_wp2_with fail
  go_loopw [5] (fun i wr => ∃ k : Nat, k ≤ n ∧ i = .int .i64 k ∧ Touch nob w wr) (fun i _ => n - (intOf i).toNat)
  case atStart => exact ⟨0, by omega, rfl, Touch.refl _ _⟩
  case round =>
    obtain ⟨k, hk, rfl, hT⟩ := hrel
    by_cases hlt : k < n
    · have hne : ¬ xs = [] := by intro h; have := HL.out; rw [h] at this; simp at this; omega
      obtain ⟨b1, o1, e1, cc1, q1⟩ := H1.out.resolve_left hne
      obtain ⟨b2, o2, e2, cc2, q2⟩ := H2.out.resolve_left hne
      subst e1 e2
      have z1 := q1 k (by rw [HL.out]; exact hlt)
      have z2 := q2 k (by rw [HL.out]; exact hlt)
      have y1 := (hT.cell (cell_lt z1) (fun x => x)).trans z1
      have y2 := (hT.cell (cell_lt z2) (fun x => x)).trans z2
      obtain ⟨y, hy⟩ : ∃ y, xs.getD k 0 = y := ⟨_, rfl⟩
      rw [hy] at y1 y2
      rw [HL.out] at cc1 cc2
      have hb : (k : Int) < (n : Int) := by omega
      clear q1 q2 z1 z2 hy hne
      go_wp2_with fail
      go_quiet (fail)
      go_wp2
      go_roundw
      case rel => exact ⟨k + 1, by omega, by go_num, hT.drewN _⟩
      case measure => simp [intOf]; omega
    · obtain rfl : k = n := by omega
      go_wp2
      go_ret
      exact ⟨rfl, hT⟩
end Go.Proofs.YtflhjbmoncbomaaGreatDoor
