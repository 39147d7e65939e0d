/- The document's In, walked. Conditions: none. -/
import Derived.Test.YtnobempbcdkoaaaGreatDoorProg
import Derived.Test.YtnobempbcdkoaaaGreatDoorRep
import Derived.Test.YtnobempbcdkoaaaGreatDoorLow
namespace Go.Proofs.YtnobempbcdkoaaaGreatDoor
open Go.RowKit

variable {w : World}
theorem ref01_In (v : Value) (xs : List Int) (n : Int) (h : IntsIn w v xs) (hl : xs.length ≤ 1048576) :
    Calls Tryz.prog 16 #[v, .int .i64 n] w fun e w' => e = .returned (.bool (decide (n ∈ xs))) ∧ Touch nob w w' := by
  obtain ⟨ao1, c1, rfl⟩ : ∃ ao cap, v = .slice ao xs.length cap := by obtain ⟨a, b, rfl, _⟩ := h; exact ⟨a, b, rfl⟩
  obtain ⟨m, hm⟩ : ∃ m, xs.length = m := ⟨_, rfl⟩
  have H := Lib.hid h
  rw [hm] at hl
  have HM := Lib.hid hm
  rw [hm]
  clear h hm
  go_enter Tryz.func16, Tryz.ntmps16
  go_wp2_with fail
  go_loopw [5] (fun i wr => ∃ k : Nat, k ≤ m ∧ i = .int .i64 k ∧ Hid (Touch nob w wr) ∧ Hid (n ∉ xs.take k)) (fun i _ => m - (intOf i).toNat)
  case atStart => exact ⟨0, Nat.zero_le _, rfl, Touch.refl _ _, by show _ ∉ _; simp⟩
  case round =>
    obtain ⟨k, hk, rfl, HT, HN⟩ := hrel
    by_cases hlt : k < m
    · have h1 := H.out.old HT.out
      obtain ⟨ao, cap, hv, h1 | ⟨b, o, rfl, hc, hcell⟩⟩ := h1
      · exfalso; have := HM.out; rw [h1] at this; simp at this; omega
      rw [HM.out] at hv hc hcell
      injection hv with hv1 hv2 hv3
      subst hv1 hv3
      have hx := hcell k hlt
      obtain ⟨x, hxe⟩ : ∃ x, xs.getD k 0 = x := ⟨_, rfl⟩
      rw [hxe] at hx
      have hkl : k < xs.length := by rw [HM.out]; exact hlt
      have HX : Hid (xs.take (k + 1) = xs.take k ++ [x]) := by
        show _ = _
        rw [List.take_add_one, ← hxe, List.getD_eq_getElem?_getD, List.getElem?_eq_getElem hkl]; rfl
      have hbk : (k : Int) < (m : Int) := by omega
      clear hcell hv2 hxe hkl
      by_cases hxn : x = n
      · subst hxn
        have HD : Hid (decide (x ∈ xs) = true) := by
          show _ = _
          rw [decide_eq_true]
          have : x ∈ xs.take (k + 1) := by rw [HX.out]; simp
          exact List.mem_of_mem_take this
        go_wp2
        go_ret
        exact ⟨ret_b HD.out.symm, HT.out⟩
      · have hxb : (x == n) = false := by simpa using hxn
        go_wp2
        go_roundw
        case rel =>
          refine ⟨k + 1, by omega, by go_num, HT, ?_⟩
          show _ ∉ _
          rw [HX.out]
          simp only [List.mem_append, List.mem_singleton, not_or]
          exact ⟨HN.out, fun e => hxn e.symm⟩
        case measure => simp [intOf]; omega
    · obtain rfl : k = m := by omega
      have HD : Hid (decide (n ∈ xs) = false) := by
        show _ = _
        rw [decide_eq_false]
        have := HN.out
        rwa [List.take_of_length_le (by rw [HM.out]; exact Nat.le_refl _)] at this
      go_wp2
      go_ret
      exact ⟨ret_b HD.out.symm, HT.out⟩
end Go.Proofs.YtnobempbcdkoaaaGreatDoor
