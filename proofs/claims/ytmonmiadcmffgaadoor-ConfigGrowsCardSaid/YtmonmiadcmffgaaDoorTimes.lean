/- Products, cut at 2^62, walked: the program's own (by the library's Mul64) and the document's. Conditions: none. -/
import Derived.Test.YtmonmiadcmffgaaDoorClass
import Derived.Shelf.Bits.Mul64
namespace Go.Proofs.YtmonmiadcmffgaaDoor
open Go.RowKit Go.Shelf

def r64 : Ren := ⟨fun _ => 75, fun n => if n = 46 then 82 else 41, fun x => x⟩
theorem lays64 : Lays.n264 Tryd.prog r64 where
  mixed := by kernel_rfl
  f264 := by kernel_rfl
  t46 := by kernel_rfl
  a46 := fun _ => rfl
  z46 := fun _ => rfl
  v46 := fun _ => rfl
  t53 := by kernel_rfl
  a53 := fun _ => rfl
  z53 := fun _ => rfl
  v53 := fun _ => rfl

theorem bits_mul64 (a b h l : Int) (ha : 0 ≤ a) (ha' : a < 18446744073709551616) (hb : 0 ≤ b) (hb' : b < 18446744073709551616) (hh : a * b / 18446744073709551616 = h) (hl : a * b % 18446744073709551616 = l) (w : World) :
    Calls Tryd.prog 75 #[.int .u64 a, .int .u64 b] w fun e w' => e = .returned (.tuple #[.int .u64 h, .int .u64 l]) ∧ w = w' := by
  obtain ⟨x, rfl⟩ := Int.eq_ofNat_of_zero_le ha
  obtain ⟨y, rfl⟩ := Int.eq_ofNat_of_zero_le hb
  refine (Any.bits_Mul64 lays64 x y (by omega) (by omega) w).mono fun e w' h => ⟨?_, h.2.symm⟩
  rw [h.1, ← hh, ← hl]
  rfl

def big : Int := 4611686018427387904
def timesI (a b : Int) : Int := if a * b ≤ big then a * b else big
theorem timesI_bd {a b : Int} (ha : 0 ≤ a) (hb : 0 ≤ b) : 0 ≤ timesI a b ∧ timesI a b ≤ big := by
  have := Int.mul_nonneg ha hb
  unfold timesI
  split
  · exact ⟨this, by assumption⟩
  · exact ⟨by decide, Int.le_refl _⟩
theorem timesI_mono {a b c d : Int} (ha : 0 ≤ a) (hb : 0 ≤ b) (hac : a ≤ c) (hbd : b ≤ d) : timesI a b ≤ timesI c d := by
  have h1 : a * b ≤ c * d := Int.le_trans (Int.mul_le_mul_of_nonneg_right hac hb) (Int.mul_le_mul_of_nonneg_left hbd (by omega))
  unfold timesI
  split <;> split <;> omega

set_option maxHeartbeats 400000 in
theorem config_times (a b : Int) (ha : 0 ≤ a) (ha' : Hid (a < 9223372036854775808)) (hb : 0 ≤ b) (hb' : Hid (b < 9223372036854775808)) (w : World) :
    Calls Tryd.prog 72 #[.int .i64 a, .int .i64 b] w fun e w' => e = .returned (.int .i64 (timesI a b)) ∧ w = w' := by
  have hp := Int.mul_nonneg ha hb
  have wa : IntKind.u64.wrap a = a := by rw [IntKind.wrap_u64]; have := ha'.out; omega
  have wb : IntKind.u64.wrap b = b := by rw [IntKind.wrap_u64]; have := hb'.out; omega
  obtain ⟨h, hh⟩ : ∃ h, a * b / 18446744073709551616 = h := ⟨_, rfl⟩
  obtain ⟨l, hl⟩ : ∃ l, a * b % 18446744073709551616 = l := ⟨_, rfl⟩
  have l0 : 0 ≤ l := by omega
  have M := Lib.hid (fun w => bits_mul64 a b h l ha (by have := ha'.out; omega) hb (by have := hb'.out; omega) hh hl w)
  by_cases h1 : h = 0
  · subst h1
    have hab : a * b = l := by omega
    by_cases h2 : l ≤ 4611686018427387904
    · have HT : Hid (timesI a b = l) := by show timesI a b = l; unfold timesI; rw [hab]; exact if_pos h2
      have wl : IntKind.i64.wrap l = l := by rw [IntKind.wrap_i64]; omega
      clear hh hl hab hp
      go_enter Tryd.func72, Tryd.ntmps72
      go_wp2_with (go_at_call 75; refine (M.out _).mono ?_; rintro e w' ⟨rfl, rfl⟩)
      go_ret
      exact ⟨ret_int (by rw [HT.out]), rfl⟩
    · have HT : Hid (timesI a b = 4611686018427387904) := by show timesI a b = _; unfold timesI; rw [hab]; exact if_neg h2
      clear hh hl hab hp
      go_enter Tryd.func72, Tryd.ntmps72
      go_wp2_with (go_at_call 75; refine (M.out _).mono ?_; rintro e w' ⟨rfl, rfl⟩)
      go_ret
      exact ⟨ret_int (by rw [HT.out]), rfl⟩
  · have hab : ¬ a * b ≤ 4611686018427387904 := by omega
    have HT : Hid (timesI a b = 4611686018427387904) := by show timesI a b = _; unfold timesI; exact if_neg hab
    clear hh hl hab hp
    go_enter Tryd.func72, Tryd.ntmps72
    go_wp2_with (go_at_call 75; refine (M.out _).mono ?_; rintro e w' ⟨rfl, rfl⟩)
    go_ret
    exact ⟨ret_int (by rw [HT.out]), rfl⟩

set_option maxHeartbeats 400000 in
theorem ref02_times (a b : Int) (ha : 0 ≤ a) (ha' : Hid (a < 9223372036854775808)) (hb : 0 ≤ b) (w : World) :
    Calls Tryd.prog 74 #[.int .i64 a, .int .i64 b] w fun e w' => e = .returned (.int .i64 (timesI a b)) ∧ w = w' := by
  have hp := Int.mul_nonneg ha hb
  by_cases h0 : a = 0
  · subst h0
    have HT : Hid (timesI 0 b = 0) := by show timesI 0 b = 0; unfold timesI; rw [Int.zero_mul]; exact if_pos (by decide)
    go_enter Tryd.func74, Tryd.ntmps74
    go_wp2
    go_ret
    exact ⟨ret_int (by rw [HT.out]), rfl⟩
  · have a0 : 0 < a := by omega
    have hd : (4611686018427387904 / a < b) ↔ 4611686018427387904 < a * b := by
      rw [Int.ediv_lt_iff_lt_mul a0, Int.mul_comm]
    have q0 : 0 ≤ 4611686018427387904 / a := Int.ediv_nonneg (by decide) ha
    have q1 : 4611686018427387904 / a ≤ 4611686018427387904 := Int.ediv_le_self _ (by decide)
    have hq := Int.tdiv_eq_ediv_of_nonneg (a := 4611686018427387904) (b := a) (by decide)
    by_cases h2 : a * b ≤ 4611686018427387904
    · have hlt : ¬ (4611686018427387904 / a < b) := by rw [hd]; omega
      have HT : Hid (timesI a b = a * b) := by show timesI a b = _; unfold timesI; exact if_pos h2
      have ww : IntKind.i64.wrap (a * b) = a * b := by rw [IntKind.wrap_i64]; omega
      clear hd
      go_enter Tryd.func74, Tryd.ntmps74
      go_wp2
      go_ret
      exact ⟨ret_int (by rw [HT.out]), rfl⟩
    · have hlt : 4611686018427387904 / a < b := by rw [hd]; omega
      have HT : Hid (timesI a b = 4611686018427387904) := by show timesI a b = _; unfold timesI; exact if_neg h2
      clear hd h2
      go_enter Tryd.func74, Tryd.ntmps74
      go_wp2
      go_ret
      exact ⟨ret_int (by rw [HT.out]), rfl⟩
end Go.Proofs.YtmonmiadcmffgaaDoor
