/- The class functions, walked: what each returns. Conditions: the table of sizes reads as laid. The document's answers for classes, walked: each returns what the program's own function does. -/
import Derived.Test.YtflhjbmoncbomaaGreatDoorProg
import Derived.WalkKit
import Derived.WalkSpells
import Derived.WalkLawsBesides
import Derived.Lib.Hide
namespace Go.Proofs.YtflhjbmoncbomaaGreatDoor
open Go.RowKit

theorem ret_int {k : IntKind} {a b : Int} (h : a = b) : Ending.returned (.int k a) = .returned (.int k b) := by rw [h]
theorem ret_bool {a b : Bool} (h : a = b) : Ending.returned (.bool a) = .returned (.bool b) := by rw [h]

/-- The table of sizes reads as laid. -/
def Sizes (w : World) : Prop :=
  w.cell? ⟨1, 0, none⟩ = some (.int .i64 2) ∧ w.cell? ⟨1, 1, none⟩ = some (.int .i64 4) ∧ w.cell? ⟨1, 2, none⟩ = some (.int .i64 8) ∧ w.cell? ⟨1, 3, none⟩ = some (.int .i64 16)

def isCls (k : Int) : Bool := decide (0 ≤ k) && decide (k < 4)
theorem isCls_yes {k : Int} (h : 0 ≤ k) (h' : k < 4) : isCls k = true := by unfold isCls; simp [h, h']
theorem isCls_no {k : Int} (h : k < 0 ∨ 4 ≤ k) : isCls k = false := by unfold isCls; simp; omega
theorem isCls_iff {k : Int} : isCls k = true ↔ (0 ≤ k ∧ k < 4) := by unfold isCls; simp
theorem isCls_false {k : Int} : isCls k = false ↔ (k < 0 ∨ 4 ≤ k) := by unfold isCls; simp; omega

def clsSize (k : Int) : Int := if k = 0 then 2 else if k = 1 then 4 else if k = 2 then 8 else if k = 3 then 16 else 0
theorem clsSize_no {k : Int} (h : isCls k = false) : clsSize k = 0 := by
  rw [isCls_false] at h; unfold clsSize; repeat (first | rw [if_neg (by omega)] | rfl)
theorem clsSize_cases {k : Int} (h : isCls k = true) : (k = 0 ∧ clsSize k = 2) ∨ (k = 1 ∧ clsSize k = 4) ∨ (k = 2 ∧ clsSize k = 8) ∨ (k = 3 ∧ clsSize k = 16) := by
  rw [isCls_iff] at h
  have : k = 0 ∨ k = 1 ∨ k = 2 ∨ k = 3 := by omega
  rcases this with rfl | rfl | rfl | rfl <;> simp [clsSize]
theorem clsSize_bd (k : Int) : 0 ≤ clsSize k ∧ clsSize k ≤ 16 := by
  cases h : isCls k
  · rw [clsSize_no h]; omega
  · rcases clsSize_cases h with h | h | h | h <;> omega
theorem clsSize_lo {k : Int} (h : isCls k = true) : 2 ≤ clsSize k := by
  rcases clsSize_cases h with h | h | h | h <;> omega
def clsRoom (k : Int) : Int := if isCls k then clsSize k - 1 else 0

theorem class_Is (k : Int) (w : World) :
    Calls Tryz.prog 118 #[.int .i64 k] w fun e w' => e = .returned (.bool (isCls k)) ∧ w = w' := by
  go_enter Tryz.func118, Tryz.ntmps118
  go_wp2
  · go_ret
    exact ⟨ret_bool (by unfold isCls; simp [*]), rfl⟩
  · go_ret
    exact ⟨ret_bool (by unfold isCls; simp; omega), rfl⟩

set_option maxHeartbeats 400000 in
theorem class_Size (k : Int) (w : World) (hz : Sizes w) :
    Calls Tryz.prog 143 #[.int .i64 k] w fun e w' => e = .returned (.int .i64 (clsSize k)) ∧ w = w' := by
  obtain ⟨z0, z1, z2, z3⟩ := hz
  cases hk : isCls k
  · have hn := clsSize_no hk
    have HN := Lib.hid hn
    have HK := Lib.hid hk
    clear hn hk
    go_enter Tryz.func143, Tryz.ntmps143
    go_wp2_with (go_at_call 118; refine (class_Is k w).mono ?_; rintro e w' ⟨rfl, rfl⟩; rw [HK.out])
    go_ret
    exact ⟨ret_int HN.out.symm, rfl⟩
  · have HK := Lib.hid hk
    rcases clsSize_cases hk with ⟨rfl, hn⟩ | ⟨rfl, hn⟩ | ⟨rfl, hn⟩ | ⟨rfl, hn⟩
    all_goals
      have HN := Lib.hid hn
      clear hn hk
      go_enter Tryz.func143, Tryz.ntmps143
      go_wp2_with (go_at_call 118; refine (class_Is _ w).mono ?_; rintro e w' ⟨rfl, rfl⟩; rw [HK.out])
      go_ret
      exact ⟨ret_int HN.out.symm, rfl⟩

theorem clsRoom_eq (k : Int) : max 0 (clsSize k - 1) = clsRoom k := by
  unfold clsRoom
  cases hk : isCls k
  · rw [clsSize_no hk]; rfl
  · have := clsSize_lo hk; simp; omega

theorem class_Room (k : Int) (w : World) (hz : Sizes w) :
    Calls Tryz.prog 121 #[.int .i64 k] w fun e w' => e = .returned (.int .i64 (clsRoom k)) ∧ w = w' := by
  have hb := clsSize_bd k
  have HR := Lib.hid (clsRoom_eq k)
  have HZ := Lib.hid hz
  clear hz
  obtain ⟨h0, h1⟩ := hb
  go_enter Tryz.func121, Tryz.ntmps121
  go_wp2_with (go_at_call 143; refine (class_Size k w HZ.out).mono ?_; rintro e w' ⟨rfl, rfl⟩)
  all_goals
    go_ret
    exact ⟨ret_int (by rw [← HR.out]; omega), rfl⟩

/-- The class of so many fields; -1: there is none. -/
def clsOf (n : Int) : Int := if n < 0 then -1 else if n ≤ 1 then 0 else if n ≤ 3 then 1 else if n ≤ 7 then 2 else if n ≤ 15 then 3 else -1
theorem clsRooms : clsRoom 0 = 1 ∧ clsRoom 1 = 3 ∧ clsRoom 2 = 7 ∧ clsRoom 3 = 15 := by decide
theorem clsOf_no {n : Int} (h : n < 0 ∨ 15 < n) : clsOf n = -1 := by
  unfold clsOf
  rcases h with h | h
  · rw [if_pos h]
  · repeat (first | rw [if_neg (by omega)] | rfl)
theorem clsOf_is {n : Int} (h : 0 ≤ n) (h' : n ≤ 15) : isCls (clsOf n) = true ∧ n ≤ clsRoom (clsOf n) ∧ (0 < clsOf n → clsRoom (clsOf n - 1) < n) := by
  obtain ⟨r0, r1, r2, r3⟩ := clsRooms
  unfold clsOf
  rw [if_neg (by omega)]
  by_cases h1 : n ≤ 1
  · rw [if_pos h1]; exact ⟨by decide, by rw [r0]; exact h1, fun h => by omega⟩
  rw [if_neg h1]
  by_cases h2 : n ≤ 3
  · rw [if_pos h2]; exact ⟨by decide, by rw [r1]; exact h2, fun _ => by show clsRoom 0 < n; omega⟩
  rw [if_neg h2]
  by_cases h3 : n ≤ 7
  · rw [if_pos h3]; exact ⟨by decide, by rw [r2]; exact h3, fun _ => by show clsRoom 1 < n; omega⟩
  rw [if_neg h3, if_pos h']
  exact ⟨by decide, by rw [r3]; exact h', fun _ => by show clsRoom 2 < n; omega⟩

def ofOk (n : Int) : Bool := decide (0 ≤ n) && decide (n ≤ 15)

set_option maxHeartbeats 400000 in
theorem class_Of (n : Int) (w : World) (hz : Sizes w) :
    Calls Tryz.prog 88 #[.int .i64 n] w fun e w' => e = .returned (.tuple #[.int .i64 (max 0 (clsOf n)), .bool (ofOk n)]) ∧ w = w' := by
  have HZ := Lib.hid hz
  clear hz
  go_enter Tryz.func88, Tryz.ntmps88
  go_wp2_with fail
  go_loop [2, 3, 5] (fun a b c => ∃ k : Nat, k ≤ 4 ∧ a = .int .i64 0 ∧ b = .bool false ∧ c = .int .i64 k ∧ (n < 0 ∨ ∀ j : Nat, j < k → clsRoom j < n)) (fun _ _ c => 4 - (intOf c).toNat)
  case atStart => exact ⟨0, by omega, rfl, rfl, rfl, .inr (fun _ h => by omega)⟩
  case round =>
    obtain ⟨k, hk, rfl, rfl, rfl, hall⟩ := hrel
    by_cases hlt : k < 4
    · have hr0 : 1 ≤ clsRoom k := by
        obtain ⟨r0, r1, r2, r3⟩ := clsRooms
        have : k = 0 ∨ k = 1 ∨ k = 2 ∨ k = 3 := by omega
        rcases this with rfl | rfl | rfl | rfl <;> simp_all
      by_cases h0 : 0 ≤ n
      · by_cases hn : n ≤ clsRoom k
        · have HF : Hid (Ending.returned (.tuple #[.int .i64 (k : Int), .bool true]) = .returned (.tuple #[.int .i64 (max 0 (clsOf n)), .bool (ofOk n)])) := by
            obtain ⟨r0, r1, r2, r3⟩ := clsRooms
            have ho : ofOk n = true := by
              unfold ofOk
              have : k = 0 ∨ k = 1 ∨ k = 2 ∨ k = 3 := by omega
              rcases this with rfl | rfl | rfl | rfl <;> simp_all <;> omega
            have hk : max 0 (clsOf n) = k := by
              rcases hall with hall | hall
              · omega
              have g0 := hall 0; have g1 := hall 1; have g2 := hall 2
              unfold clsOf
              have : k = 0 ∨ k = 1 ∨ k = 2 ∨ k = 3 := by omega
              rcases this with rfl | rfl | rfl | rfl <;> simp_all <;> (repeat (first | rw [if_neg (by omega)] | rw [if_pos (by omega)])) <;> rfl
            rw [ho, hk]; exact rfl
          clear hall
          go_wp2_with (go_at_call 121; refine (class_Room _ w HZ.out).mono ?_; rintro e w' ⟨rfl, rfl⟩)
          go_ret2
          exact ⟨HF.out, rfl⟩
        · have hn' : clsRoom k < n := by omega
          have HA : Hid (∀ j : Nat, j < k + 1 → clsRoom j < n) := by
            intro j hj
            rcases hall with hall | hall
            · omega
            by_cases e : j = k
            · rw [e]; exact hn'
            · exact hall j (by omega)
          clear hall
          go_wp2_with (go_at_call 121; refine (class_Room _ w HZ.out).mono ?_; rintro e w' ⟨rfl, rfl⟩)
          go_round
          case rel => exact ⟨k + 1, by omega, rfl, rfl, by go_num, .inr HA.out⟩
          case measure => simp [intOf]; omega
      · have h0' : n < 0 := by omega
        clear hall
        go_wp2_with fail
        go_round
        case rel => exact ⟨k + 1, by omega, rfl, rfl, by go_num, .inl h0'⟩
        case measure => simp [intOf]; omega
    · obtain rfl : k = 4 := by omega
      have HF : Hid (Ending.returned (.tuple #[.int .i64 0, .bool false]) = .returned (.tuple #[.int .i64 (max 0 (clsOf n)), .bool (ofOk n)])) := by
        have hn : n < 0 ∨ 15 < n := by
          rcases hall with hall | hall
          · exact .inl hall
          · have := hall 3 (by omega); rw [show clsRoom ((3 : Nat) : Int) = 15 from clsRooms.2.2.2] at this; omega
        rw [clsOf_no hn, show ofOk n = false by unfold ofOk; simp; omega]; exact rfl
      clear hall
      go_wp2_with fail
      go_ret2
      exact ⟨HF.out, rfl⟩

def wordsOk (w : Int) : Bool := decide (16 ≤ w) && decide (w ≤ 256)
/-- How many slots a block has. -/
def perBlock (w k : Int) : Int := if isCls k && wordsOk w then w / clsSize k else 0

set_option maxHeartbeats 400000 in
theorem class_PerBlock (x k : Int) (w : World) (hz : Sizes w) :
    Calls Tryz.prog 152 #[.int .i64 x, .int .i64 k] w fun e w' => e = .returned (.int .i64 (perBlock x k)) ∧ w = w' := by
  obtain ⟨z0, z1, z2, z3⟩ := hz
  cases hk : isCls k
  · have HN : Hid (perBlock x k = 0) := by unfold perBlock; rw [hk]; exact rfl
    have HK := Lib.hid hk
    clear hk
    go_enter Tryz.func152, Tryz.ntmps152
    go_wp2_with (go_at_call 118; refine (class_Is k w).mono ?_; rintro e w' ⟨rfl, rfl⟩; rw [HK.out])
    go_ret
    exact ⟨ret_int HN.out.symm, rfl⟩
  · have HK := Lib.hid hk
    by_cases hx : 16 ≤ x
    · by_cases hx' : x ≤ 256
      · rcases clsSize_cases hk with ⟨rfl, hn⟩ | ⟨rfl, hn⟩ | ⟨rfl, hn⟩ | ⟨rfl, hn⟩
        all_goals
          have HN := Lib.hid (show perBlock x _ = _ from by unfold perBlock; rw [hk, show wordsOk x = true by unfold wordsOk; simp; omega, hn]; first | done | exact rfl)
          clear hn hk
          go_enter Tryz.func152, Tryz.ntmps152
          go_wp2_with (go_at_call 118; refine (class_Is _ w).mono ?_; rintro e w' ⟨rfl, rfl⟩; rw [HK.out])
          go_ret
          exact ⟨ret_int HN.out.symm, rfl⟩
      · have HN := Lib.hid (show perBlock x k = 0 by unfold perBlock; rw [show wordsOk x = false by unfold wordsOk; simp; omega]; simp)
        clear hk
        go_enter Tryz.func152, Tryz.ntmps152
        go_wp2_with (go_at_call 118; refine (class_Is k w).mono ?_; rintro e w' ⟨rfl, rfl⟩; rw [HK.out])
        go_ret
        exact ⟨ret_int HN.out.symm, rfl⟩
    · have HN := Lib.hid (show perBlock x k = 0 by unfold perBlock; rw [show wordsOk x = false by unfold wordsOk; simp; omega]; simp)
      clear hk
      go_enter Tryz.func152, Tryz.ntmps152
      go_wp2_with (go_at_call 118; refine (class_Is k w).mono ?_; rintro e w' ⟨rfl, rfl⟩; rw [HK.out])
      go_ret
      exact ⟨ret_int HN.out.symm, rfl⟩
end Go.Proofs.YtflhjbmoncbomaaGreatDoor
namespace Go.Proofs.YtflhjbmoncbomaaGreatDoor
open Go.RowKit

theorem ref03_Is (k : Int) (w : World) :
    Calls Tryz.prog 108 #[.int .i64 k] w fun e w' => e = .returned (.bool (isCls k)) ∧ w = w' := by
  go_enter Tryz.func108, Tryz.ntmps108
  go_wp2
  · go_ret
    exact ⟨ret_bool (by unfold isCls; simp [*]; omega), rfl⟩
  · go_ret
    exact ⟨ret_bool (by unfold isCls; simp; omega), rfl⟩

set_option maxHeartbeats 400000 in
theorem ref03_Size (k : Int) (w : World) :
    Calls Tryz.prog 111 #[.int .i64 k] w fun e w' => e = .returned (.int .i64 (clsSize k)) ∧ w = w' := by
  cases hk : isCls k
  · have HN := Lib.hid (clsSize_no hk)
    have HK := Lib.hid hk
    clear hk
    go_enter Tryz.func111, Tryz.ntmps111
    go_wp2_with (go_at_call 108; refine (ref03_Is k w).mono ?_; rintro e w' ⟨rfl, rfl⟩; rw [HK.out])
    go_ret
    exact ⟨ret_int HN.out.symm, rfl⟩
  · have HK := Lib.hid hk
    obtain ⟨n, rfl⟩ := Int.eq_ofNat_of_zero_le (isCls_iff.1 hk).1
    have hn4 : n < 4 := by have := (isCls_iff.1 hk).2; omega
    have HN : Hid (clsSize n = ((2 ^ (n + 1) : Nat) : Int)) := by
      have : n = 0 ∨ n = 1 ∨ n = 2 ∨ n = 3 := by omega
      rcases this with rfl | rfl | rfl | rfl <;> rfl
    clear hk
    go_enter Tryz.func111, Tryz.ntmps111
    go_wp2_with (go_at_call 108; refine (ref03_Is _ w).mono ?_; rintro e w' ⟨rfl, rfl⟩; rw [HK.out])
    go_loop [3, 4] (fun a b => ∃ i m : Nat, i ≤ n ∧ a = .int .i64 m ∧ b = .int .i64 i ∧ m ≤ 16 ∧ Hid (m = 2 ^ (i + 1))) (fun _ b => n - (intOf b).toNat)
    case atStart => exact ⟨0, 2, by omega, rfl, rfl, by omega, rfl⟩
    case round =>
      obtain ⟨i, m, hi, rfl, rfl, hm, HM⟩ := hrel
      by_cases hlt : i < n
      · go_wp2_with fail
        go_round
        case rel =>
          have h2 : 2 * m = 2 ^ (i + 1 + 1) := by have := HM.out; rw [Nat.pow_succ]; omega
          refine ⟨i + 1, 2 * m, by omega, by go_num, by go_num, ?_, h2⟩
          rw [h2]
          have : i = 0 ∨ i = 1 ∨ i = 2 := by omega
          rcases this with rfl | rfl | rfl <;> decide
        case measure => simp [intOf]; omega
      · obtain rfl : i = n := by omega
        go_wp2_with fail
        go_ret
        exact ⟨ret_int (by rw [HN.out, HM.out]), rfl⟩

set_option maxHeartbeats 400000 in
theorem ref03_Of (n : Int) (w : World) :
    Calls Tryz.prog 112 #[.int .i64 n] w fun e w' => e = .returned (.int .i64 (clsOf n)) ∧ w = w' := by
  by_cases h0 : n < 0
  · have HN := Lib.hid (clsOf_no (n := n) (.inl h0))
    go_enter Tryz.func112, Tryz.ntmps112
    go_wp2_with fail
    go_ret
    exact ⟨ret_int HN.out.symm, rfl⟩
  by_cases h15 : 15 < n
  · have HN := Lib.hid (clsOf_no (n := n) (.inr h15))
    go_enter Tryz.func112, Tryz.ntmps112
    go_wp2_with fail
    go_ret
    exact ⟨ret_int HN.out.symm, rfl⟩
  have hc := clsOf_is (n := n) (by omega) (by omega)
  obtain ⟨m, hm⟩ := Int.eq_ofNat_of_zero_le (isCls_iff.1 hc.1).1
  have hm4 : m < 4 := by have := (isCls_iff.1 hc.1).2; omega
  rw [hm] at hc ⊢
  obtain ⟨hc1, hc2, hc3⟩ := hc
  have HC1 : Hid (∀ i : Nat, i < m → clsSize i < n + 1 ∧ 0 ≤ clsSize i) := by
    intro i hi
    have : i = 0 ∨ i = 1 ∨ i = 2 := by omega
    have h3 := hc3 (by omega)
    obtain ⟨r0, r1, r2, r3⟩ := clsRooms
    have hm' : m = 1 ∨ m = 2 ∨ m = 3 := by omega
    have s0 : clsSize 0 = 2 := rfl
    have s1 : clsSize 1 = 4 := rfl
    have s2 : clsSize 2 = 8 := rfl
    rcases hm' with rfl | rfl | rfl <;> rcases this with rfl | rfl | rfl <;> simp_all <;> omega
  have HC2 : Hid (n + 1 ≤ clsSize m ∧ clsSize m ≤ 16) := by
    have := clsSize_bd m
    have := clsSize_lo hc1
    unfold clsRoom at hc2
    rw [if_pos hc1] at hc2
    exact ⟨by omega, by omega⟩
  clear hm hc1 hc2 hc3
  go_enter Tryz.func112, Tryz.ntmps112
  go_wp2_with fail
  go_loop [3] (fun a => ∃ i : Nat, i ≤ m ∧ a = .int .i64 i) (fun a => m - (intOf a).toNat)
  case atStart => exact ⟨0, by omega, rfl⟩
  case round =>
    obtain ⟨i, hi, rfl⟩ := hrel
    by_cases hlt : i < m
    · obtain ⟨g1, g2⟩ := HC1.out i hlt
      go_wp2_with (go_at_call 111; refine (ref03_Size _ w).mono ?_; rintro e w' ⟨rfl, rfl⟩)
      go_round
      case rel => exact ⟨i + 1, by omega, by go_num⟩
      case measure => simp [intOf]; omega
    · obtain rfl : i = m := by omega
      obtain ⟨g1, g2⟩ := HC2.out
      go_wp2_with (go_at_call 111; refine (ref03_Size _ w).mono ?_; rintro e w' ⟨rfl, rfl⟩)
      go_ret
      exact ⟨rfl, rfl⟩

theorem per_bd (x s : Int) (hx : 16 ≤ x) (hx' : x ≤ 256) (hs : 2 ≤ s) (hs' : s ≤ 16) : 0 ≤ x / s ∧ x / s ≤ 128 ∧ s * (x / s) ≤ x ∧ x < s * (x / s) + s := by
  have h1 := Int.mul_ediv_add_emod x s
  have h2 := Int.emod_nonneg x (show s ≠ 0 by omega)
  have h3 := Int.emod_lt_of_pos x (show 0 < s by omega)
  have h4 : 0 ≤ x / s := Int.ediv_nonneg (by omega) (by omega)
  refine ⟨h4, ?_, by omega, by omega⟩
  have : 2 * (x / s) ≤ s * (x / s) := Int.mul_le_mul_of_nonneg_right hs h4
  omega

set_option maxHeartbeats 400000 in
theorem ref03_Per (x k : Int) (w : World) :
    Calls Tryz.prog 109 #[.int .i64 x, .int .i64 k] w fun e w' => e = .returned (.int .i64 (perBlock x k)) ∧ w = w' := by
  cases hk : isCls k
  · have HN : Hid (perBlock x k = 0) := by unfold perBlock; rw [hk]; exact rfl
    have HK := Lib.hid hk
    clear hk
    go_enter Tryz.func109, Tryz.ntmps109
    go_wp2_with (go_at_call 108; refine (ref03_Is k w).mono ?_; rintro e w' ⟨rfl, rfl⟩; rw [HK.out])
    go_ret
    exact ⟨ret_int HN.out.symm, rfl⟩
  · have HK := Lib.hid hk
    by_cases hx : 16 ≤ x ∧ x ≤ 256
    · obtain ⟨hx, hx'⟩ := hx
      have hs := clsSize_lo hk
      have hs' := (clsSize_bd k).2
      have hp := per_bd x (clsSize k) hx hx' hs hs'
      have hpb : perBlock x k = x / clsSize k := by unfold perBlock; rw [hk, show wordsOk x = true by unfold wordsOk; simp; omega]; rfl
      rw [← hpb] at hp
      obtain ⟨m, hm⟩ := Int.eq_ofNat_of_zero_le hp.1
      rw [hm] at hp ⊢
      obtain ⟨p0, p1, p2, p3⟩ := hp
      have HS : Hid (∃ s, clsSize k = s) := ⟨_, rfl⟩
      have HI : Hid (∀ i : Nat, (i < m → (↑i + 1) * clsSize k ≤ x) ∧ (i ≤ m → 0 ≤ (↑i + 1) * clsSize k ∧ (↑i + 1) * clsSize k ≤ 3000)) := by
        intro i
        refine ⟨fun h => ?_, fun h => ?_⟩
        · have : ((i : Int) + 1) * clsSize k ≤ m * clsSize k := Int.mul_le_mul_of_nonneg_right (by omega) (by omega)
          rw [Int.mul_comm (m : Int)] at this; omega
        · have a1 : (0 : Int) ≤ ((i : Int) + 1) * clsSize k := Int.mul_nonneg (by omega) (by omega)
          have a2 : ((i : Int) + 1) * clsSize k ≤ (129 : Int) * clsSize k := Int.mul_le_mul_of_nonneg_right (by omega) (by omega)
          omega
      have HE : Hid (x < (↑m + 1) * clsSize k) := by
        show x < ((m : Int) + 1) * clsSize k
        rw [Int.mul_comm, Int.mul_add]; omega
      clear hk hpb hm p2 p3
      go_enter Tryz.func109, Tryz.ntmps109
      go_wp2_with (go_at_call 108; refine (ref03_Is k w).mono ?_; rintro e w' ⟨rfl, rfl⟩; rw [HK.out])
      go_loop [5] (fun a => ∃ i : Nat, i ≤ m ∧ a = .int .i64 i) (fun a => m - (intOf a).toNat)
      case atStart => exact ⟨0, by omega, rfl⟩
      case round =>
        obtain ⟨i, hi, rfl⟩ := hrel
        obtain ⟨g3, g4⟩ := (HI.out i).2 hi
        by_cases hlt : i < m
        · have g2 := (HI.out i).1 hlt
          go_wp2_with (go_at_call 111; refine (ref03_Size _ w).mono ?_; rintro e w' ⟨rfl, rfl⟩)
          go_round
          case rel => exact ⟨i + 1, by omega, by go_num⟩
          case measure => simp [intOf]; omega
        · obtain rfl : i = m := by omega
          have g2 : x < (↑i + 1) * clsSize k := HE.out
          go_wp2_with (go_at_call 111; refine (ref03_Size _ w).mono ?_; rintro e w' ⟨rfl, rfl⟩)
          go_ret
          exact ⟨rfl, rfl⟩
    · have HN := Lib.hid (show perBlock x k = 0 by unfold perBlock; rw [show wordsOk x = false by unfold wordsOk; simp; omega]; simp)
      clear hk
      by_cases hx1 : 16 ≤ x
      · have hx2 : 256 < x := by omega
        clear hx
        go_enter Tryz.func109, Tryz.ntmps109
        go_wp2_with (go_at_call 108; refine (ref03_Is k w).mono ?_; rintro e w' ⟨rfl, rfl⟩; rw [HK.out])
        go_ret
        exact ⟨ret_int HN.out.symm, rfl⟩
      · clear hx
        go_enter Tryz.func109, Tryz.ntmps109
        go_wp2_with (go_at_call 108; refine (ref03_Is k w).mono ?_; rintro e w' ⟨rfl, rfl⟩; rw [HK.out])
        go_ret
        exact ⟨ret_int HN.out.symm, rfl⟩
end Go.Proofs.YtflhjbmoncbomaaGreatDoor
