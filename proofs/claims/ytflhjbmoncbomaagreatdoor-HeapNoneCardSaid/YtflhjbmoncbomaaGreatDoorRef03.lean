/- The document's answers for classes, walked: each returns what the program's own function does. -/
import Derived.Test.YtflhjbmoncbomaaGreatDoorClass
namespace Go.Proofs.YtflhjbmoncbomaaGreatDoor
open Go.RowKit

theorem ref03_Is (k : Int) (w : World) :
    Calls Tryz.prog 108 #[.int .i64 k] w fun e w' => e = .returned (.bool (isCls k)) ∧ w = w' := by
  go_enter Tryz.func108, Tryz.ntmps108
  go_wp2
  · go_ret
    exact ⟨ret_bool (by unfold isCls; simp [*]; omega), rfl⟩
  · go_ret
    exact ⟨ret_bool (by unfold isCls; simp; omega), rfl⟩

set_option maxHeartbeats 400000 in
theorem ref03_Size (k : Int) (w : World) :
    Calls Tryz.prog 111 #[.int .i64 k] w fun e w' => e = .returned (.int .i64 (clsSize k)) ∧ w = w' := by
  cases hk : isCls k
  · have HN := Lib.hid (clsSize_no hk)
    have HK := Lib.hid hk
    clear hk
    go_enter Tryz.func111, Tryz.ntmps111
    go_wp2_with (go_at_call 108; refine (ref03_Is k w).mono ?_; rintro e w' ⟨rfl, rfl⟩; rw [HK.out])
    go_ret
    exact ⟨ret_int HN.out.symm, rfl⟩
  · have HK := Lib.hid hk
    obtain ⟨n, rfl⟩ := Int.eq_ofNat_of_zero_le (isCls_iff.1 hk).1
    have hn4 : n < 4 := by have := (isCls_iff.1 hk).2; omega
    have HN : Hid (clsSize n = ((2 ^ (n + 1) : Nat) : Int)) := by
      have : n = 0 ∨ n = 1 ∨ n = 2 ∨ n = 3 := by omega
      rcases this with rfl | rfl | rfl | rfl <;> rfl
    clear hk
    go_enter Tryz.func111, Tryz.ntmps111
    go_wp2_with (go_at_call 108; refine (ref03_Is _ w).mono ?_; rintro e w' ⟨rfl, rfl⟩; rw [HK.out])
    go_loop [3, 4] (fun a b => ∃ i m : Nat, i ≤ n ∧ a = .int .i64 m ∧ b = .int .i64 i ∧ m ≤ 16 ∧ Hid (m = 2 ^ (i + 1))) (fun _ b => n - (intOf b).toNat)
    case atStart => exact ⟨0, 2, by omega, rfl, rfl, by omega, rfl⟩
    case round =>
      obtain ⟨i, m, hi, rfl, rfl, hm, HM⟩ := hrel
      by_cases hlt : i < n
      · go_wp2_with fail
        go_round
        case rel =>
          have h2 : 2 * m = 2 ^ (i + 1 + 1) := by have := HM.out; rw [Nat.pow_succ]; omega
          refine ⟨i + 1, 2 * m, by omega, by go_num, by go_num, ?_, h2⟩
          rw [h2]
          have : i = 0 ∨ i = 1 ∨ i = 2 := by omega
          rcases this with rfl | rfl | rfl <;> decide
        case measure => simp [intOf]; omega
      · obtain rfl : i = n := by omega
        go_wp2_with fail
        go_ret
        exact ⟨ret_int (by rw [HN.out, HM.out]), rfl⟩

set_option maxHeartbeats 400000 in
theorem ref03_Of (n : Int) (w : World) :
    Calls Tryz.prog 112 #[.int .i64 n] w fun e w' => e = .returned (.int .i64 (clsOf n)) ∧ w = w' := by
  by_cases h0 : n < 0
  · have HN := Lib.hid (clsOf_no (n := n) (.inl h0))
    go_enter Tryz.func112, Tryz.ntmps112
    go_wp2_with fail
    go_ret
    exact ⟨ret_int HN.out.symm, rfl⟩
  by_cases h15 : 15 < n
  · have HN := Lib.hid (clsOf_no (n := n) (.inr h15))
    go_enter Tryz.func112, Tryz.ntmps112
    go_wp2_with fail
    go_ret
    exact ⟨ret_int HN.out.symm, rfl⟩
  have hc := clsOf_is (n := n) (by omega) (by omega)
  obtain ⟨m, hm⟩ := Int.eq_ofNat_of_zero_le (isCls_iff.1 hc.1).1
  have hm4 : m < 4 := by have := (isCls_iff.1 hc.1).2; omega
  rw [hm] at hc ⊢
  obtain ⟨hc1, hc2, hc3⟩ := hc
  have HC1 : Hid (∀ i : Nat, i < m → clsSize i < n + 1 ∧ 0 ≤ clsSize i) := by
    intro i hi
    have : i = 0 ∨ i = 1 ∨ i = 2 := by omega
    have h3 := hc3 (by omega)
    obtain ⟨r0, r1, r2, r3⟩ := clsRooms
    have hm' : m = 1 ∨ m = 2 ∨ m = 3 := by omega
    have s0 : clsSize 0 = 2 := rfl
    have s1 : clsSize 1 = 4 := rfl
    have s2 : clsSize 2 = 8 := rfl
    rcases hm' with rfl | rfl | rfl <;> rcases this with rfl | rfl | rfl <;> simp_all <;> omega
  have HC2 : Hid (n + 1 ≤ clsSize m ∧ clsSize m ≤ 16) := by
    have := clsSize_bd m
    have := clsSize_lo hc1
    unfold clsRoom at hc2
    rw [if_pos hc1] at hc2
    exact ⟨by omega, by omega⟩
  clear hm hc1 hc2 hc3
  go_enter Tryz.func112, Tryz.ntmps112
  go_wp2_with fail
  go_loop [3] (fun a => ∃ i : Nat, i ≤ m ∧ a = .int .i64 i) (fun a => m - (intOf a).toNat)
  case atStart => exact ⟨0, by omega, rfl⟩
  case round =>
    obtain ⟨i, hi, rfl⟩ := hrel
    by_cases hlt : i < m
    · obtain ⟨g1, g2⟩ := HC1.out i hlt
      go_wp2_with (go_at_call 111; refine (ref03_Size _ w).mono ?_; rintro e w' ⟨rfl, rfl⟩)
      go_round
      case rel => exact ⟨i + 1, by omega, by go_num⟩
      case measure => simp [intOf]; omega
    · obtain rfl : i = m := by omega
      obtain ⟨g1, g2⟩ := HC2.out
      go_wp2_with (go_at_call 111; refine (ref03_Size _ w).mono ?_; rintro e w' ⟨rfl, rfl⟩)
      go_ret
      exact ⟨rfl, rfl⟩

theorem per_bd (x s : Int) (hx : 16 ≤ x) (hx' : x ≤ 256) (hs : 2 ≤ s) (hs' : s ≤ 16) : 0 ≤ x / s ∧ x / s ≤ 128 ∧ s * (x / s) ≤ x ∧ x < s * (x / s) + s := by
  have h1 := Int.mul_ediv_add_emod x s
  have h2 := Int.emod_nonneg x (show s ≠ 0 by omega)
  have h3 := Int.emod_lt_of_pos x (show 0 < s by omega)
  have h4 : 0 ≤ x / s := Int.ediv_nonneg (by omega) (by omega)
  refine ⟨h4, ?_, by omega, by omega⟩
  have : 2 * (x / s) ≤ s * (x / s) := Int.mul_le_mul_of_nonneg_right hs h4
  omega

set_option maxHeartbeats 400000 in
theorem ref03_Per (x k : Int) (w : World) :
    Calls Tryz.prog 109 #[.int .i64 x, .int .i64 k] w fun e w' => e = .returned (.int .i64 (perBlock x k)) ∧ w = w' := by
  cases hk : isCls k
  · have HN : Hid (perBlock x k = 0) := by unfold perBlock; rw [hk]; exact rfl
    have HK := Lib.hid hk
    clear hk
    go_enter Tryz.func109, Tryz.ntmps109
    go_wp2_with (go_at_call 108; refine (ref03_Is k w).mono ?_; rintro e w' ⟨rfl, rfl⟩; rw [HK.out])
    go_ret
    exact ⟨ret_int HN.out.symm, rfl⟩
  · have HK := Lib.hid hk
    by_cases hx : 16 ≤ x ∧ x ≤ 256
    · obtain ⟨hx, hx'⟩ := hx
      have hs := clsSize_lo hk
      have hs' := (clsSize_bd k).2
      have hp := per_bd x (clsSize k) hx hx' hs hs'
      have hpb : perBlock x k = x / clsSize k := by unfold perBlock; rw [hk, show wordsOk x = true by unfold wordsOk; simp; omega]; rfl
      rw [← hpb] at hp
      obtain ⟨m, hm⟩ := Int.eq_ofNat_of_zero_le hp.1
      rw [hm] at hp ⊢
      obtain ⟨p0, p1, p2, p3⟩ := hp
      have HS : Hid (∃ s, clsSize k = s) := ⟨_, rfl⟩
      have HI : Hid (∀ i : Nat, (i < m → (↑i + 1) * clsSize k ≤ x) ∧ (i ≤ m → 0 ≤ (↑i + 1) * clsSize k ∧ (↑i + 1) * clsSize k ≤ 3000)) := by
        intro i
        refine ⟨fun h => ?_, fun h => ?_⟩
        · have : ((i : Int) + 1) * clsSize k ≤ m * clsSize k := Int.mul_le_mul_of_nonneg_right (by omega) (by omega)
          rw [Int.mul_comm (m : Int)] at this; omega
        · have a1 : (0 : Int) ≤ ((i : Int) + 1) * clsSize k := Int.mul_nonneg (by omega) (by omega)
          have a2 : ((i : Int) + 1) * clsSize k ≤ (129 : Int) * clsSize k := Int.mul_le_mul_of_nonneg_right (by omega) (by omega)
          omega
      have HE : Hid (x < (↑m + 1) * clsSize k) := by
        show x < ((m : Int) + 1) * clsSize k
        rw [Int.mul_comm, Int.mul_add]; omega
      clear hk hpb hm p2 p3
      go_enter Tryz.func109, Tryz.ntmps109
      go_wp2_with (go_at_call 108; refine (ref03_Is k w).mono ?_; rintro e w' ⟨rfl, rfl⟩; rw [HK.out])
      go_loop [5] (fun a => ∃ i : Nat, i ≤ m ∧ a = .int .i64 i) (fun a => m - (intOf a).toNat)
      case atStart => exact ⟨0, by omega, rfl⟩
      case round =>
        obtain ⟨i, hi, rfl⟩ := hrel
        obtain ⟨g3, g4⟩ := (HI.out i).2 hi
        by_cases hlt : i < m
        · have g2 := (HI.out i).1 hlt
          go_wp2_with (go_at_call 111; refine (ref03_Size _ w).mono ?_; rintro e w' ⟨rfl, rfl⟩)
          go_round
          case rel => exact ⟨i + 1, by omega, by go_num⟩
          case measure => simp [intOf]; omega
        · obtain rfl : i = m := by omega
          have g2 : x < (↑i + 1) * clsSize k := HE.out
          go_wp2_with (go_at_call 111; refine (ref03_Size _ w).mono ?_; rintro e w' ⟨rfl, rfl⟩)
          go_ret
          exact ⟨rfl, rfl⟩
    · have HN := Lib.hid (show perBlock x k = 0 by unfold perBlock; rw [show wordsOk x = false by unfold wordsOk; simp; omega]; simp)
      clear hk
      by_cases hx1 : 16 ≤ x
      · have hx2 : 256 < x := by omega
        clear hx
        go_enter Tryz.func109, Tryz.ntmps109
        go_wp2_with (go_at_call 108; refine (ref03_Is k w).mono ?_; rintro e w' ⟨rfl, rfl⟩; rw [HK.out])
        go_ret
        exact ⟨ret_int HN.out.symm, rfl⟩
      · clear hx
        go_enter Tryz.func109, Tryz.ntmps109
        go_wp2_with (go_at_call 108; refine (ref03_Is k w).mono ?_; rintro e w' ⟨rfl, rfl⟩; rw [HK.out])
        go_ret
        exact ⟨ret_int HN.out.symm, rfl⟩
end Go.Proofs.YtflhjbmoncbomaaGreatDoor
