/- The document's sets of numbers: All, Next, In, walked. Conditions: none beyond what each says. -/
import Derived.Test.YtjbmpdibjfcafaaDoorRef01
import Derived.Test.YtjbmpdibjfcafaaDoorList
import Derived.Deep.AppendLies
namespace Go.Proofs.YtjbmpdibjfcafaaDoor
open Go.RowKit

variable {w : World} {p q size : Nat} {M : Nat → Bool}
theorem ref_Next (n : Int) (h : RefAt w p q size M) :
    Calls Tryd.prog 25 #[.pointer (some ⟨p, 0, none⟩), .int .i64 n] w fun e w' => ∃ o, NextR M size n.toNat o ∧ e = .returned (.tuple #[.int .i64 (o.getD 0 : Nat), .bool o.isSome]) ∧ w = w' := by
  obtain ⟨d0, e0⟩ := box1 h.box
  have hle := h.le
  have HR := Lib.hid h.row
  obtain ⟨m, hm⟩ : ∃ m : Nat, n.toNat = m := ⟨_, rfl⟩
  rw [hm]
  have hmx : (if n < 0 then (0 : Int) else n) = (m : Int) := by split <;> omega
  clear h hm
  go_enter Tryd.func25, Tryd.ntmps25
  go_wp2_with fail
  go_loopw [6] (fun i wr => ∃ k : Nat, i = .int .i64 k ∧ wr = w ∧ m ≤ k ∧ Hid (k ≤ m ∨ k ≤ size) ∧ Hid (∀ j, m ≤ j → j < k → j < size → M j = false)) (fun i _ => size - (intOf i).toNat)
  case atStart => exact ⟨m, rfl, rfl, Nat.le_refl _, .inl (Nat.le_refl _), fun j h1 h2 => by omega⟩
  case round =>
    obtain ⟨k, rfl, rfl, hmk, HK, HM⟩ := hrel
    by_cases hks : k < size
    · have dq := bool_cell HR.out hks
      have hb : (k : Int) < (size : Int) := by omega
      obtain ⟨x, hx⟩ : ∃ x, M k = x := ⟨_, rfl⟩
      rw [hx] at dq
      have HX := Lib.hid hx
      clear hx
      cases x
      · go_wp2
        go_roundw
        case rel =>
          refine ⟨k + 1, by go_num, trivial, by omega, .inr (by omega), fun j h1 h2 h3 => ?_⟩
          by_cases hjk : j < k
          · exact HM.out j h1 hjk h3
          · rw [show j = k by omega]; exact HX.out
        case measure => simp [intOf]; omega
      · go_wp2
        go_ret2
        exact ⟨some k, ⟨hmk, hks, HX.out, fun j h1 h2 => HM.out j h1 h2 (by omega)⟩, rfl, rfl⟩
    · go_wp2
      go_ret2
      exact ⟨none, fun j h1 h2 => HM.out j h1 (by omega) h2, rfl, rfl⟩
set_option maxHeartbeats 800000 in
theorem ref_All (h : RefAt w p q size M) :
    Calls Tryd.prog 23 #[.pointer (some ⟨p, 0, none⟩)] w fun e w' => ∃ v, e = .returned v ∧ Touch nob w w' ∧ IntsIn w' v ((elems M size).map fun (x : Nat) => (x : Int)) := by
  obtain ⟨i0, hi, hz0, hz1, hz2⟩ := info_parts info_int2
  have H := Lib.hid h
  have hle := h.le
  clear h
  go_enter Tryd.func23, Tryd.ntmps23
  go_wp2_with fail
  go_loopw [3, 4] (fun v i wr => ∃ k : Nat, k ≤ size ∧ i = .int .i64 k ∧ Hid (Touch nob w wr) ∧ Hid (wr.ownsRow w.heap.size 3 1 v (elems M k).length ((elems M k).map fun (x : Nat) => Value.int .i64 (x : Int)))) (fun _ i _ => size - (intOf i).toNat)
  case atStart => exact ⟨0, Nat.zero_le _, rfl, Touch.refl _ _, World.ownsRow_nil _ _ _ _⟩
  case round =>
    obtain ⟨k, hk, rfl, HT, HO⟩ := hrel
    obtain ⟨ao, capv, rfl⟩ := own_shape HO.out
    have hR := H.out.touch HT.out (fun x => x) (fun x => x)
    obtain ⟨d0, e0⟩ := box1 hR.box
    by_cases hks : k < size
    · have dq := bool_cell hR.row hks
      have hb : (k : Int) < (size : Int) := by omega
      have HE := Lib.hid (elems_succ (M := M) k)
      have hjl : (elems M k).length ≤ k := by rw [elems_len]; exact cnt_le _ _
      obtain ⟨l, hl⟩ : ∃ l, elems M k = l := ⟨_, rfl⟩
      rw [hl] at HE HO hjl ⊢
      obtain ⟨j, hj⟩ : ∃ j, l.length = j := ⟨_, rfl⟩
      rw [hj] at HO hjl ⊢
      have HJ := Lib.hid hj
      obtain ⟨x, hx⟩ : ∃ x, M k = x := ⟨_, rfl⟩
      rw [hx] at dq HE
      clear hR hl hj hx
      cases x
      · go_wp2
        go_roundw
        case rel =>
          refine ⟨k + 1, by omega, by go_num, HT, ?_⟩
          show World.ownsRow _ _ _ _ _ _ _
          rw [HE.out]
          simp only [Bool.false_eq_true, if_false, List.append_nil]
          rw [HJ.out]
          exact HO.out
        case measure => simp [intOf]; omega
      · have HS : Hid (w.heap.size ≤ wr.heap.size) := HT.out.size
        go_wp2_with (at_builtin; refine wpList_append_own _ rfl (.tmp 21) (.tmp 23) 23 rfl w.heap.size 3 i0 (.int .i64 0) 1 8 Tryd.underlying23 hi hz0 hz1 hz2 rfl (by decide) _ j _ rfl (HO.out.alloc _) ⟨wr.heap.size, 0, none⟩ 1 1 [.int .i64 (k : Int)] rfl rfl (World.news_of_block (World.alloc_heap_new _ _)) (ints_oneCell _ [(k : Int)]) (by unfold maxLen; omega) (by omega) (by have := HS.out; simp; omega) ?_; intro v3 w3 hown hgrow _; have HW3 := Lib.hid (And.intro hown hgrow); clear hown hgrow)
        go_roundw
        case rel =>
          refine ⟨k + 1, by omega, by go_num, ?_, ?_⟩
          · exact Touch.grown (HT.out.alloc _) HW3.out.2 (fun b hb => .inr (HO.out.lt b hb).1)
          · show World.ownsRow _ _ _ _ _ _ _
            rw [HE.out]
            simp only [if_true, List.length_append, List.length_cons, List.length_nil, Nat.zero_add, List.map_append, List.map_cons, List.map_nil]
            rw [HJ.out]
            exact HW3.out.1
        case measure => simp [intOf]; omega
    · obtain rfl : k = size := by omega
      go_wp2
      go_ret
      exact ⟨_, rfl, HT.out, ints_of_own HO.out⟩
theorem ref01_In (v : Value) (xs : List Int) (n : Int) (h : IntsIn w v xs) (hl : xs.length ≤ 1048576) :
    Calls Tryd.prog 30 #[v, .int .i64 n] w fun e w' => e = .returned (.bool (decide (n ∈ xs))) ∧ Touch nob w w' := by
  obtain ⟨ao1, c1, rfl⟩ : ∃ ao cap, v = .slice ao xs.length cap := by obtain ⟨a, b, rfl, _⟩ := h; exact ⟨a, b, rfl⟩
  obtain ⟨m, hm⟩ : ∃ m, xs.length = m := ⟨_, rfl⟩
  have H := Lib.hid h
  rw [hm] at hl
  have HM := Lib.hid hm
  rw [hm]
  clear h hm
  go_enter Tryd.func30, Tryd.ntmps30
  go_wp2_with fail
  go_loopw [5] (fun i wr => ∃ k : Nat, k ≤ m ∧ i = .int .i64 k ∧ Hid (Touch nob w wr) ∧ Hid (n ∉ xs.take k)) (fun i _ => m - (intOf i).toNat)
  case atStart => exact ⟨0, Nat.zero_le _, rfl, Touch.refl _ _, by show _ ∉ _; simp⟩
  case round =>
    obtain ⟨k, hk, rfl, HT, HN⟩ := hrel
    by_cases hlt : k < m
    · have h1 := H.out.old HT.out
      obtain ⟨ao, cap, hv, h1 | ⟨b, o, rfl, hc, hcell⟩⟩ := h1
      · exfalso; have := HM.out; rw [h1] at this; simp at this; omega
      rw [HM.out] at hv hc hcell
      injection hv with hv1 hv2 hv3
      subst hv1 hv3
      have hx := hcell k hlt
      obtain ⟨x, hxe⟩ : ∃ x, xs.getD k 0 = x := ⟨_, rfl⟩
      rw [hxe] at hx
      have hkl : k < xs.length := by rw [HM.out]; exact hlt
      have HX : Hid (xs.take (k + 1) = xs.take k ++ [x]) := by
        show _ = _
        rw [List.take_add_one, ← hxe, List.getD_eq_getElem?_getD, List.getElem?_eq_getElem hkl]; rfl
      have hbk : (k : Int) < (m : Int) := by omega
      clear hcell hv2 hxe hkl
      by_cases hxn : x = n
      · subst hxn
        have HD : Hid (decide (x ∈ xs) = true) := by
          show _ = _
          rw [decide_eq_true]
          have : x ∈ xs.take (k + 1) := by rw [HX.out]; simp
          exact List.mem_of_mem_take this
        go_wp2
        go_ret
        exact ⟨ret_b HD.out.symm, HT.out⟩
      · have hxb : (x == n) = false := by simpa using hxn
        go_wp2
        go_roundw
        case rel =>
          refine ⟨k + 1, by omega, by go_num, HT, ?_⟩
          show _ ∉ _
          rw [HX.out]
          simp only [List.mem_append, List.mem_singleton, not_or]
          exact ⟨HN.out, fun e => hxn e.symm⟩
        case measure => simp [intOf]; omega
    · obtain rfl : k = m := by omega
      have HD : Hid (decide (n ∈ xs) = false) := by
        show _ = _
        rw [decide_eq_false]
        have := HN.out
        rwa [List.take_of_length_le (by rw [HM.out]; exact Nat.le_refl _)] at this
      go_wp2
      go_ret
      exact ⟨ret_b HD.out.symm, HT.out⟩
end Go.Proofs.YtjbmpdibjfcafaaDoor
