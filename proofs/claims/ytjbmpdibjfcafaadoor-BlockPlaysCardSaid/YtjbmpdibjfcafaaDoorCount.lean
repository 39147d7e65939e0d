/- Sets of numbers: Count, walked. Conditions: none. -/
import Derived.Test.YtjbmpdibjfcafaaDoorSet5
import Derived.Test.YtjbmpdibjfcafaaDoorSet4
import Derived.Test.YtjbmpdibjfcafaaDoorOnes
namespace Go.Proofs.YtjbmpdibjfcafaaDoor
open Go.RowKit

theorem mk_eqs : mk 85 8 = 6148914691236517205 ∧ mk 51 8 = 3689348814741910323 ∧ mk 15 8 = 1085102592571150095 := by decide
theorem and_nat (a b : Nat) (ha : a < 18446744073709551616) (hb : b < 18446744073709551616) (c : Nat) (h : a &&& b = c) : bits .and .u64 (a : Int) (b : Int) = (c : Int) := by
  rw [← h]; exact bits_and_u64_nat a b ha hb
theorem and127 (v : Nat) (h : v < 9223372036854775808) : bits .and .i64 (v : Int) 127 = ((v % 128 : Nat) : Int) := by
  have h1 : (BitVec.ofInt 64 (v : Int)).toNat = v := by
    rw [BitVec.ofInt_natCast, BitVec.toNat_ofNat]; exact Nat.mod_eq_of_lt (by omega)
  have h2 : (BitVec.ofInt 64 127).toNat = 127 := by decide
  show IntKind.i64.wrap ((BitVec.ofInt 64 (v : Int) &&& BitVec.ofInt 64 127).toNat : Int) = _
  rw [BitVec.toNat_and, h1, h2, Nat.and_two_pow_sub_one_eq_mod v 7, IntKind.wrap_i64]
  omega
set_option maxHeartbeats 400000 in
theorem bits_ones (x : Nat) (hx : x < 18446744073709551616) (w : World) :
    Calls Tryd.prog 66 #[.int .u64 x] w fun e w' => e = .returned (.int .i64 (ones x)) ∧ w = w' := by
  obtain ⟨c, a, hH, hO⟩ := ones_bytes x
  obtain ⟨t, u, v, ht, hu, hv, hvl, hvm⟩ := ones_fold hH
  rw [← hO] at hvm
  have ho := ones_le x
  obtain ⟨o, hoe⟩ : ∃ o, ones x = o := ⟨_, rfl⟩
  rw [hoe] at hvm ho
  rw [hoe]
  clear hH hO hoe
  have hA : IntKind.u64.wrap (bits .and .u64 ((x : Int) / 2) 6148914691236517205 + bits .and .u64 (x : Int) 6148914691236517205) = (p1 8 x : Int) := by
    have e1 := and_nat (x / 2) 6148914691236517205 (by omega) (by omega) _ rfl
    have e2 := and_nat x 6148914691236517205 hx (by omega) _ rfl
    have l1 : x / 2 &&& 6148914691236517205 ≤ 6148914691236517205 := Nat.and_le_right
    have l2 : x &&& 6148914691236517205 ≤ 6148914691236517205 := Nat.and_le_right
    rw [show ((x : Int) / 2) = ((x / 2 : Nat) : Int) by simp, show (6148914691236517205 : Int) = ((6148914691236517205 : Nat) : Int) by rfl, e1, e2, IntKind.wrap_u64]
    unfold p1
    rw [mk_eqs.1]
    omega
  have hAl : p1 8 x < 18446744073709551616 := by
    have l1 : x / 2 &&& 6148914691236517205 ≤ 6148914691236517205 := Nat.and_le_right
    have l2 : x &&& 6148914691236517205 ≤ 6148914691236517205 := Nat.and_le_right
    unfold p1
    rw [mk_eqs.1]
    omega
  obtain ⟨A, hAe⟩ : ∃ A, p1 8 x = A := ⟨_, rfl⟩
  rw [hAe] at hA hAl ht
  clear hAe
  have hB : IntKind.u64.wrap (bits .and .u64 ((A : Int) / 4) 3689348814741910323 + bits .and .u64 (A : Int) 3689348814741910323) = (p2 8 A : Int) := by
    have e1 := and_nat (A / 4) 3689348814741910323 (by omega) (by omega) _ rfl
    have e2 := and_nat A 3689348814741910323 hAl (by omega) _ rfl
    have l1 : A / 4 &&& 3689348814741910323 ≤ 3689348814741910323 := Nat.and_le_right
    have l2 : A &&& 3689348814741910323 ≤ 3689348814741910323 := Nat.and_le_right
    rw [show ((A : Int) / 4) = ((A / 4 : Nat) : Int) by simp, show (3689348814741910323 : Int) = ((3689348814741910323 : Nat) : Int) by rfl, e1, e2, IntKind.wrap_u64]
    unfold p2
    rw [mk_eqs.2.1]
    omega
  have hBl : p2 8 A ≤ 7378697629483820646 := by
    have l1 : A / 4 &&& 3689348814741910323 ≤ 3689348814741910323 := Nat.and_le_right
    have l2 : A &&& 3689348814741910323 ≤ 3689348814741910323 := Nat.and_le_right
    unfold p2
    rw [mk_eqs.2.1]
    omega
  obtain ⟨B, hBe⟩ : ∃ B, p2 8 A = B := ⟨_, rfl⟩
  rw [hBe] at hB hBl ht
  clear hBe
  have hD : IntKind.u64.wrap ((B : Int) / 16 + (B : Int)) = ((B / 16 + B : Nat) : Int) := by rw [IntKind.wrap_u64]; omega
  have hC : bits .and .u64 ((B / 16 + B : Nat) : Int) 1085102592571150095 = (p3 8 B : Int) := by
    have e1 := and_nat (B / 16 + B) 1085102592571150095 (by omega) (by omega) _ rfl
    rw [show (1085102592571150095 : Int) = ((1085102592571150095 : Nat) : Int) by rfl, e1]
    unfold p3
    rw [mk_eqs.2.2]
  obtain ⟨C, hCe⟩ : ∃ C, p3 8 B = C := ⟨_, rfl⟩
  rw [hCe] at hC ht
  clear hCe
  obtain ⟨D, hDe⟩ : ∃ D, B / 16 + B = D := ⟨_, rfl⟩
  rw [hDe] at hD hC
  clear hDe
  have hCT : IntKind.u64.wrap ((C : Int) + (C : Int) / 256) = (t : Int) := by rw [IntKind.wrap_u64]; omega
  have hTU : IntKind.u64.wrap ((t : Int) + (t : Int) / 65536) = (u : Int) := by rw [IntKind.wrap_u64]; omega
  have hUV : IntKind.u64.wrap ((u : Int) + (u : Int) / 4294967296) = (v : Int) := by rw [IntKind.wrap_u64]; omega
  have hV : wrap64 (v : Int) = (v : Int) := wrap64_in (by omega) (by omega)
  have HF := Lib.hid (and127 v hvl)
  rw [hvm] at HF
  clear ht hu hv hx hAl hBl hvl hvm ho
  go_enter Tryd.func66, Tryd.ntmps66
  go_wp2
  go_ret
  exact ⟨ret_i HF.out, rfl⟩
end Go.Proofs.YtjbmpdibjfcafaaDoor
