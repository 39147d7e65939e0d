/- Bit operations on uint64, as arithmetic. Conditions: none; no program. -/
import Derived.WalkKit
import Derived.Lib.Hide
namespace Go.Proofs.YtflhjbmoncbomaaGreatDoor
open Go.RowKit

theorem bv_u64 (a : Nat) (ha : a < 18446744073709551616) : (BitVec.ofInt 64 (a : Int)).toNat = a := by
  rw [BitVec.ofInt_natCast, BitVec.toNat_ofNat]; exact Nat.mod_eq_of_lt (by omega)
theorem bits_and_u64_nat (a b : Nat) (ha : a < 18446744073709551616) (hb : b < 18446744073709551616) : bits .and .u64 (a : Int) (b : Int) = ((a &&& b : Nat) : Int) := by
  have hx : a &&& b < 2 ^ 64 := Nat.and_lt_two_pow _ (by omega)
  show IntKind.u64.wrap ((BitVec.ofInt 64 (a : Int) &&& BitVec.ofInt 64 (b : Int)).toNat : Int) = _
  rw [BitVec.toNat_and, bv_u64 a ha, bv_u64 b hb, IntKind.wrap_u64]
  omega
theorem bits_or_u64_nat (a b : Nat) (ha : a < 18446744073709551616) (hb : b < 18446744073709551616) : bits .or .u64 (a : Int) (b : Int) = ((a ||| b : Nat) : Int) := by
  have hx : a ||| b < 2 ^ 64 := Nat.or_lt_two_pow (by omega) (by omega)
  show IntKind.u64.wrap ((BitVec.ofInt 64 (a : Int) ||| BitVec.ofInt 64 (b : Int)).toNat : Int) = _
  rw [BitVec.toNat_or, bv_u64 a ha, bv_u64 b hb, IntKind.wrap_u64]
  omega
/-- A mask of the lowest n bits. -/
theorem and_mask (n : Nat) (hn : n ≤ 63) (m : Int) (hm : m = ((2 ^ n - 1 : Nat) : Int)) (x : Int) (h0 : 0 ≤ x) (h1 : x < 18446744073709551616) : bits .and .u64 x m = x % ((2 ^ n : Nat) : Int) := by
  obtain ⟨a, rfl⟩ := Int.eq_ofNat_of_zero_le h0
  subst hm
  have hp : 2 ^ n ≤ 2 ^ 63 := Nat.pow_le_pow_right (by omega) hn
  rw [bits_and_u64_nat a _ (by omega) (by omega), Nat.and_two_pow_sub_one_eq_mod]
  simp
/-- Two parts that do not meet. -/
theorem or_parts (n : Nat) (a b : Int) (ha : 0 ≤ a) (hb : 0 ≤ b) (hb' : b < ((2 ^ n : Nat) : Int)) (hs : a * ((2 ^ n : Nat) : Int) + b < 18446744073709551616) :
    bits .or .u64 (a * ((2 ^ n : Nat) : Int)) b = a * ((2 ^ n : Nat) : Int) + b := by
  obtain ⟨x, rfl⟩ := Int.eq_ofNat_of_zero_le ha
  obtain ⟨y, rfl⟩ := Int.eq_ofNat_of_zero_le hb
  have e : ((x : Int) * ((2 ^ n : Nat) : Int)) = ((x * 2 ^ n : Nat) : Int) := by simp
  rw [e] at hs ⊢
  have hb2 : y < 2 ^ n := by exact_mod_cast hb'
  rw [bits_or_u64_nat _ _ (by omega) (by omega)]
  have := Nat.shiftLeft_add_eq_or_of_lt hb2 x
  rw [Nat.shiftLeft_eq] at this
  rw [← this]
  simp

theorem mask8 (x : Int) (h0 : 0 ≤ x) (h1 : x < 18446744073709551616) : bits .and .u64 x 255 = x % 256 := and_mask 8 (by omega) 255 (by decide) x h0 h1
theorem mask56 (x : Int) (h0 : 0 ≤ x) (h1 : x < 18446744073709551616) : bits .and .u64 x 72057594037927935 = x % 72057594037927936 := and_mask 56 (by omega) 72057594037927935 (by decide) x h0 h1
theorem or8 (a b : Int) (ha : 0 ≤ a) (ha' : a < 256) (hb : 0 ≤ b) (hb' : b < 256) : bits .or .u64 (a * 256) b = a * 256 + b := or_parts 8 a b ha hb (by simpa using hb') (by simp; omega)
theorem or56 (a b : Int) (ha : 0 ≤ a) (ha' : a < 256) (hb : 0 ≤ b) (hb' : b < 72057594037927936) : bits .or .u64 (a * 72057594037927936) b = a * 72057594037927936 + b := or_parts 56 a b ha hb (by simpa using hb') (by simp; omega)
end Go.Proofs.YtflhjbmoncbomaaGreatDoor
