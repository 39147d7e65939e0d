/- The laws of the classes, walked. Conditions: the table of sizes reads as laid. -/
import Derived.Test.YtmonmiadcmffgaaDoorRef03
import Derived.Test.YtmonmiadcmffgaaDoorFrame
namespace Go.Proofs.YtmonmiadcmffgaaDoor
open Go.RowKit

theorem gSizes : Tryd.prog.globalNamed "dustpan/class.sizes" = some 0 := by kernel_rfl
theorem tSizes : (Tryd.prog.globals[0]?).map (·.type) = some 71 := by kernel_rfl
theorem sizes_of_cells {w : World} (h : ∀ i, w.cell? ⟨0, i, none⟩ = [Value.int .i64 2, .int .i64 4, .int .i64 8, .int .i64 16][i]?) : Sizes w := ⟨h 0, h 1, h 2, h 3⟩

theorem ofOk_eq (n : Int) : ofOk n = decide (0 ≤ clsOf n) := by
  by_cases h : 0 ≤ n ∧ n ≤ 15
  · have := isCls_iff.1 (clsOf_is h.1 h.2).1
    rw [show ofOk n = true by unfold ofOk; simp; omega]
    exact (decide_eq_true this.1).symm
  · rw [show ofOk n = false by unfold ofOk; simp; omega, clsOf_no (by omega)]; exact rfl

set_option maxHeartbeats 400000 in
theorem law03_awake (w : World) (hz : Sizes w) :
    Calls Tryd.prog 23 #[] w fun e w' => e = .returned (.bool true) ∧ w = w' := by
  have HZ := Lib.hid hz
  clear hz
  go_enter Tryd.func23, Tryd.ntmps23
  go_wp2_with fail
  refine (class_Of _ _ HZ.out).mono ?_
  rintro e w' ⟨rfl, rfl⟩
  rw [show clsOf 4 = 2 by decide, show ofOk 4 = true by decide]
  go_wp2_with (go_at_call 24; refine (class_PerBlock _ _ w HZ.out).mono ?_; rintro e w' ⟨rfl, rfl⟩; first | rw [show perBlock 20 0 = 10 by decide] | rw [show perBlock 20 2 = 2 by decide])
  go_ret
  exact ⟨rfl, rfl⟩

set_option maxHeartbeats 400000 in
theorem law_ClassOf (k : Int) (_ : (Lit.int .i64 k).wf = true) (n : Int) (_ : (Lit.int .i64 n).wf = true) (w : World) (hS : Sizes w) :
    Calls Tryd.prog 3 #[.int .i64 k, .int .i64 n] w fun e w' => e = .returned (.bool true) ∧ Below w.heap.size w w' := by
  have HZ := Lib.hid hS
  obtain ⟨h0, h1⟩ := clsSize_bd k
  have HR := Lib.hid (clsRoom_eq k)
  have HO := Lib.hid (ofOk_eq n)
  clear hS
  go_enter Tryd.func3, Tryd.ntmps3
  go_wp2_with fail
  refine (class_Of n w HZ.out).mono ?_
  rintro e w' ⟨rfl, rfl⟩
  rw [HO.out]
  go_wp2_with (first | (go_at_call 17; refine (ref03_Of _ w).mono ?_; rintro e w' ⟨rfl, rfl⟩) | (go_at_call 18; refine (class_Is _ w).mono ?_; rintro e w' ⟨rfl, rfl⟩) | (go_at_call 19; refine (ref03_Is _ w).mono ?_; rintro e w' ⟨rfl, rfl⟩) | (go_at_call 20; refine (class_Size _ w HZ.out).mono ?_; rintro e w' ⟨rfl, rfl⟩) | (go_at_call 21; refine (ref03_Size _ w).mono ?_; rintro e w' ⟨rfl, rfl⟩) | (go_at_call 22; refine (class_Room _ w HZ.out).mono ?_; rintro e w' ⟨rfl, rfl⟩; rw [← HR.out]) | (go_at_call 23; refine (law03_awake w HZ.out).mono ?_; rintro e w' ⟨rfl, rfl⟩))
  all_goals
    go_ret
    exact ⟨rfl, Below.refl _ _⟩

theorem per_facts (x k : Int) (hk : isCls k = true) (h : 16 ≤ x) (h' : x ≤ 256) :
    1 ≤ perBlock x k ∧ perBlock x k ≤ 128 ∧ perBlock x k * clsSize k ≤ x ∧ x < (perBlock x k + 1) * clsSize k := by
  have hs := clsSize_lo hk
  have hs' := (clsSize_bd k).2
  obtain ⟨p0, p1, p2, p3⟩ := per_bd x (clsSize k) h h' hs hs'
  have hpb : perBlock x k = x / clsSize k := by unfold perBlock; rw [hk, show wordsOk x = true by unfold wordsOk; simp; omega]; rfl
  rw [← hpb] at p0 p1 p2 p3
  rw [Int.mul_comm] at p2 p3
  refine ⟨?_, p1, p2, by rw [Int.add_mul]; omega⟩
  rcases (show perBlock x k < 1 ∨ 1 ≤ perBlock x k by omega) with h | h
  · have : perBlock x k = 0 := by omega
    rw [this] at p3; omega
  · exact h

set_option maxHeartbeats 400000 in
theorem law_ClassLeast (n : Int) (_ : (Lit.int .i64 n).wf = true) (a : Int) (ha : (Lit.int .u8 a).wf = true) (w : World) (hS : Sizes w) :
    Calls Tryd.prog 4 #[.int .i64 n, .int .u8 a] w fun e w' => e = .returned (.bool true) ∧ Below w.heap.size w w' := by
  have HZ := Lib.hid hS
  clear hS
  obtain ⟨a0, a1⟩ := bounds_u8 ha
  clear ha
  by_cases hn : 0 ≤ n ∧ n ≤ 15
  · have HO : Hid (ofOk n = true) := by show ofOk n = true; unfold ofOk; simp; omega
    obtain ⟨c1, c2, c3⟩ := clsOf_is hn.1 hn.2
    obtain ⟨k, hk⟩ : ∃ k, clsOf n = k := ⟨_, rfl⟩
    rw [hk] at c1 c2 c3
    have HK : Hid (max 0 (clsOf n) = k) := by show max 0 (clsOf n) = k; rw [hk]; have := (isCls_iff.1 c1).1; omega
    clear hk
    obtain ⟨n0, n1⟩ := hn
    have HC := Lib.hid c1
    have hx0 : 0 ≤ a % 241 := Int.emod_nonneg _ (by omega)
    have hx1 : a % 241 < 241 := Int.emod_lt_of_pos _ (by omega)
    obtain ⟨p0, p1, p2, p3⟩ := per_facts (16 + a % 241) k c1 (by omega) (by omega)
    have HP := Lib.hid (show perBlock (16 + a % 241) k = perBlock (16 + a % 241) k from rfl)
    obtain ⟨r0, r1, r2, r3⟩ := clsRooms
    rcases clsSize_cases c1 with ⟨rfl, hs⟩ | ⟨rfl, hs⟩ | ⟨rfl, hs⟩ | ⟨rfl, hs⟩
    all_goals
      simp only [hs, r0, r1, r2, r3] at c2 c3 p2 p3
      have HS := Lib.hid hs
      have HR := Lib.hid (show (clsRoom 0 = 1 ∧ clsRoom 1 = 3 ∧ clsRoom 2 = 7 ∧ clsRoom 3 = 15) from ⟨r0, r1, r2, r3⟩)
      try (have c3' := c3 (by omega); simp only [r0, r1, r2, show (1 : Int) - 1 = 0 by rfl, show (2 : Int) - 1 = 1 by rfl, show (3 : Int) - 1 = 2 by rfl] at c3')
      clear c3 hs r0 r1 r2 r3 c1
      go_enter Tryd.func4, Tryd.ntmps4
      go_wp2_with fail
      refine (class_Of n w HZ.out).mono ?_
      rintro e w' ⟨rfl, rfl⟩
      rw [HO.out, HK.out]
      go_wp2_with (first | (go_at_call 18; refine (class_Is _ w).mono ?_; rintro e w' ⟨rfl, rfl⟩; rw [HC.out]) | (go_at_call 20; refine (class_Size _ w HZ.out).mono ?_; rintro e w' ⟨rfl, rfl⟩; rw [HS.out]) | (go_at_call 24; refine (class_PerBlock _ _ w HZ.out).mono ?_; rintro e w' ⟨rfl, rfl⟩) | (go_at_call 22; refine (class_Room _ w HZ.out).mono ?_; rintro e w' ⟨rfl, rfl⟩; first | rw [HR.out.1] | rw [HR.out.2.1] | rw [HR.out.2.2.1] | rw [HR.out.2.2.2]) | (go_at_call 23; refine (law03_awake w HZ.out).mono ?_; rintro e w' ⟨rfl, rfl⟩))
      go_ret
      exact ⟨rfl, Below.refl _ _⟩
  · have HO : Hid (ofOk n = false) := by show ofOk n = false; unfold ofOk; simp; omega
    rcases (show n < 0 ∨ 15 < n by omega) with h | h
    all_goals
      clear hn
      go_enter Tryd.func4, Tryd.ntmps4
      go_wp2_with fail
      refine (class_Of n w HZ.out).mono ?_
      rintro e w' ⟨rfl, rfl⟩
      rw [HO.out]
      go_wp2_with (go_at_call 23; refine (law03_awake w HZ.out).mono ?_; rintro e w' ⟨rfl, rfl⟩)
      go_ret
      exact ⟨rfl, Below.refl _ _⟩

theorem per_at (x : Int) (h : 16 ≤ x) (h' : x ≤ 256) : perBlock x 0 = x / 2 ∧ perBlock x 1 = x / 4 ∧ perBlock x 2 = x / 8 ∧ perBlock x 3 = x / 16 := by
  unfold perBlock
  rw [show wordsOk x = true by unfold wordsOk; simp; omega]
  exact ⟨rfl, rfl, rfl, rfl⟩
theorem roomSize (k : Int) (h : isCls k = true) : clsRoom k = clsSize k - 1 := by unfold clsRoom; rw [if_pos h]

set_option maxHeartbeats 800000 in
theorem law_ClassOrder (k : Int) (hk : (Lit.int .u8 k).wf = true) (a : Int) (ha : (Lit.int .u8 a).wf = true) (b : Int) (hb : (Lit.int .u8 b).wf = true) (w : World) (hS : Sizes w) :
    Calls Tryd.prog 5 #[.int .u8 k, .int .u8 a, .int .u8 b] w fun e w' => e = .returned (.bool true) ∧ Below w.heap.size w w' := by
  have HZ := Lib.hid hS
  clear hS
  obtain ⟨k0, k1⟩ := bounds_u8 hk
  obtain ⟨a0, a1⟩ := bounds_u8 ha
  obtain ⟨b0, b1⟩ := bounds_u8 hb
  clear ha hb hk
  have hx0 : 0 ≤ a % 241 := Int.emod_nonneg _ (by omega)
  have hx1 : a % 241 < 241 := Int.emod_lt_of_pos _ (by omega)
  have hy0 : 0 ≤ b % 241 := Int.emod_nonneg _ (by omega)
  have hy1 : b % 241 < 241 := Int.emod_lt_of_pos _ (by omega)
  have HPX := Lib.hid (per_at (16 + a % 241) (by omega) (by omega))
  have HPY := Lib.hid (per_at (16 + b % 241) (by omega) (by omega))
  have HS : Hid (clsSize 0 = 2 ∧ clsSize 1 = 4 ∧ clsSize 2 = 8 ∧ clsSize 3 = 16) := by exact (by decide : clsSize 0 = 2 ∧ clsSize 1 = 4 ∧ clsSize 2 = 8 ∧ clsSize 3 = 16)
  have HR := Lib.hid clsRooms
  rcases (show k % 4 = 0 ∨ k % 4 = 1 ∨ k % 4 = 2 ∨ k % 4 = 3 by omega) with hc | hc | hc | hc
  all_goals
    go_enter Tryd.func5, Tryd.ntmps5
    go_wp2_with (first | (go_at_call 20; refine (class_Size _ w HZ.out).mono ?_; rintro e w' ⟨rfl, rfl⟩; first | rw [HS.out.1] | rw [HS.out.2.1] | rw [HS.out.2.2.1] | rw [HS.out.2.2.2]) | (go_at_call 24; refine (class_PerBlock _ _ w HZ.out).mono ?_; rintro e w' ⟨rfl, rfl⟩; first | rw [HPX.out.1] | rw [HPX.out.2.1] | rw [HPX.out.2.2.1] | rw [HPX.out.2.2.2] | rw [HPY.out.1] | rw [HPY.out.2.1] | rw [HPY.out.2.2.1] | rw [HPY.out.2.2.2]) | (go_at_call 22; refine (class_Room _ w HZ.out).mono ?_; rintro e w' ⟨rfl, rfl⟩; first | rw [HR.out.1] | rw [HR.out.2.1] | rw [HR.out.2.2.1] | rw [HR.out.2.2.2]) | (go_at_call 23; refine (law03_awake w HZ.out).mono ?_; rintro e w' ⟨rfl, rfl⟩))
    all_goals
      go_ret
      exact ⟨rfl, Below.refl _ _⟩
end Go.Proofs.YtmonmiadcmffgaaDoor
