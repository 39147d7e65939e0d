/- Sets of numbers: Count, walked. Conditions: none. Sets of numbers: Count, walked. Conditions: none. -/
import Derived.Test.YtflhjbmoncbomaaGreatDoorSet
import Derived.Test.YtflhjbmoncbomaaGreatDoorOnes
namespace Go.Proofs.YtflhjbmoncbomaaGreatDoor
open Go.RowKit

theorem mk_eqs : mk 85 8 = 6148914691236517205 ∧ mk 51 8 = 3689348814741910323 ∧ mk 15 8 = 1085102592571150095 := by decide
theorem and_nat (a b : Nat) (ha : a < 18446744073709551616) (hb : b < 18446744073709551616) (c : Nat) (h : a &&& b = c) : bits .and .u64 (a : Int) (b : Int) = (c : Int) := by
  rw [← h]; exact bits_and_u64_nat a b ha hb
theorem and127 (v : Nat) (h : v < 9223372036854775808) : bits .and .i64 (v : Int) 127 = ((v % 128 : Nat) : Int) := by
  have h1 : (BitVec.ofInt 64 (v : Int)).toNat = v := by
    rw [BitVec.ofInt_natCast, BitVec.toNat_ofNat]; exact Nat.mod_eq_of_lt (by omega)
  have h2 : (BitVec.ofInt 64 127).toNat = 127 := by decide
  show IntKind.i64.wrap ((BitVec.ofInt 64 (v : Int) &&& BitVec.ofInt 64 127).toNat : Int) = _
  rw [BitVec.toNat_and, h1, h2, Nat.and_two_pow_sub_one_eq_mod v 7, IntKind.wrap_i64]
  omega
end Go.Proofs.YtflhjbmoncbomaaGreatDoor
namespace Go.Proofs.YtflhjbmoncbomaaGreatDoor
open Go.RowKit

variable {w : World} {p q cap : Nat} {ws : List Nat} {size : Nat} {M : Nat → Bool}
def bitOf (ws : List Nat) (n : Nat) : Bool := (ws.getD (n / 64) 0).testBit (n % 64)
theorem cnt_word (ws : List Nat) (k : Nat) : cnt (bitOf ws) (64 * (k + 1)) = cnt (bitOf ws) (64 * k) + ones (ws.getD k 0) := by
  rw [Nat.mul_succ, cnt_add]
  congr 1
  unfold ones
  refine cnt_congr fun j hj => ?_
  unfold bitOf
  rw [show (64 * k + j) / 64 = k by omega, show (64 * k + j) % 64 = j by omega]
theorem WRep.cnt (h : WRep ws size M) : cnt (bitOf ws) (64 * ws.length) = cnt M size := by
  obtain ⟨d, hd⟩ : ∃ d, 64 * ws.length = size + d := ⟨64 * ws.length - size, by have := h.len; omega⟩
  have hb : ∀ n, bitOf ws n = (decide (n < size) && M n) := h.bit
  rw [hd, cnt_add, cnt_none (n := d) (fun k _ => by rw [hb, decide_eq_false (by omega)]; rfl)]
  exact cnt_congr fun k hk => by rw [hb]; simp [hk]
end Go.Proofs.YtflhjbmoncbomaaGreatDoor
