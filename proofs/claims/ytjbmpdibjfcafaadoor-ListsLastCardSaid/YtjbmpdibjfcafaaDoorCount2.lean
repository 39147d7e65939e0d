/- Sets of numbers: Count, walked. Conditions: none. Sets of numbers: Count, walked. Conditions: none. -/
import Derived.Test.YtjbmpdibjfcafaaDoorSet
import Derived.Test.YtjbmpdibjfcafaaDoorSet4
import Derived.Test.YtjbmpdibjfcafaaDoorOnes
namespace Go.Proofs.YtjbmpdibjfcafaaDoor
open Go.RowKit

theorem mk_eqs : mk 85 8 = 6148914691236517205 ∧ mk 51 8 = 3689348814741910323 ∧ mk 15 8 = 1085102592571150095 := by decide
theorem and_nat (a b : Nat) (ha : a < 18446744073709551616) (hb : b < 18446744073709551616) (c : Nat) (h : a &&& b = c) : bits .and .u64 (a : Int) (b : Int) = (c : Int) := by
  rw [← h]; exact bits_and_u64_nat a b ha hb
theorem and127 (v : Nat) (h : v < 9223372036854775808) : bits .and .i64 (v : Int) 127 = ((v % 128 : Nat) : Int) := by
  have h1 : (BitVec.ofInt 64 (v : Int)).toNat = v := by
    rw [BitVec.ofInt_natCast, BitVec.toNat_ofNat]; exact Nat.mod_eq_of_lt (by omega)
  have h2 : (BitVec.ofInt 64 127).toNat = 127 := by decide
  show IntKind.i64.wrap ((BitVec.ofInt 64 (v : Int) &&& BitVec.ofInt 64 127).toNat : Int) = _
  rw [BitVec.toNat_and, h1, h2, Nat.and_two_pow_sub_one_eq_mod v 7, IntKind.wrap_i64]
  omega
set_option maxHeartbeats 400000 in
theorem bits_ones (x : Nat) (hx : x < 18446744073709551616) (w : World) :
    Calls Tryd.prog 66 #[.int .u64 x] w fun e w' => e = .returned (.int .i64 (ones x)) ∧ w = w' := by
  obtain ⟨c, a, hH, hO⟩ := ones_bytes x
  obtain ⟨t, u, v, ht, hu, hv, hvl, hvm⟩ := ones_fold hH
  rw [← hO] at hvm
  have ho := ones_le x
  obtain ⟨o, hoe⟩ : ∃ o, ones x = o := ⟨_, rfl⟩
  rw [hoe] at hvm ho
  rw [hoe]
  clear hH hO hoe
  have hA : IntKind.u64.wrap (bits .and .u64 ((x : Int) / 2) 6148914691236517205 + bits .and .u64 (x : Int) 6148914691236517205) = (p1 8 x : Int) := by
    have e1 := and_nat (x / 2) 6148914691236517205 (by omega) (by omega) _ rfl
    have e2 := and_nat x 6148914691236517205 hx (by omega) _ rfl
    have l1 : x / 2 &&& 6148914691236517205 ≤ 6148914691236517205 := Nat.and_le_right
    have l2 : x &&& 6148914691236517205 ≤ 6148914691236517205 := Nat.and_le_right
    rw [show ((x : Int) / 2) = ((x / 2 : Nat) : Int) by simp, show (6148914691236517205 : Int) = ((6148914691236517205 : Nat) : Int) by rfl, e1, e2, IntKind.wrap_u64]
    unfold p1
    rw [mk_eqs.1]
    omega
  have hAl : p1 8 x < 18446744073709551616 := by
    have l1 : x / 2 &&& 6148914691236517205 ≤ 6148914691236517205 := Nat.and_le_right
    have l2 : x &&& 6148914691236517205 ≤ 6148914691236517205 := Nat.and_le_right
    unfold p1
    rw [mk_eqs.1]
    omega
  obtain ⟨A, hAe⟩ : ∃ A, p1 8 x = A := ⟨_, rfl⟩
  rw [hAe] at hA hAl ht
  clear hAe
  have hB : IntKind.u64.wrap (bits .and .u64 ((A : Int) / 4) 3689348814741910323 + bits .and .u64 (A : Int) 3689348814741910323) = (p2 8 A : Int) := by
    have e1 := and_nat (A / 4) 3689348814741910323 (by omega) (by omega) _ rfl
    have e2 := and_nat A 3689348814741910323 hAl (by omega) _ rfl
    have l1 : A / 4 &&& 3689348814741910323 ≤ 3689348814741910323 := Nat.and_le_right
    have l2 : A &&& 3689348814741910323 ≤ 3689348814741910323 := Nat.and_le_right
    rw [show ((A : Int) / 4) = ((A / 4 : Nat) : Int) by simp, show (3689348814741910323 : Int) = ((3689348814741910323 : Nat) : Int) by rfl, e1, e2, IntKind.wrap_u64]
    unfold p2
    rw [mk_eqs.2.1]
    omega
  have hBl : p2 8 A ≤ 7378697629483820646 := by
    have l1 : A / 4 &&& 3689348814741910323 ≤ 3689348814741910323 := Nat.and_le_right
    have l2 : A &&& 3689348814741910323 ≤ 3689348814741910323 := Nat.and_le_right
    unfold p2
    rw [mk_eqs.2.1]
    omega
  obtain ⟨B, hBe⟩ : ∃ B, p2 8 A = B := ⟨_, rfl⟩
  rw [hBe] at hB hBl ht
  clear hBe
  have hD : IntKind.u64.wrap ((B : Int) / 16 + (B : Int)) = ((B / 16 + B : Nat) : Int) := by rw [IntKind.wrap_u64]; omega
  have hC : bits .and .u64 ((B / 16 + B : Nat) : Int) 1085102592571150095 = (p3 8 B : Int) := by
    have e1 := and_nat (B / 16 + B) 1085102592571150095 (by omega) (by omega) _ rfl
    rw [show (1085102592571150095 : Int) = ((1085102592571150095 : Nat) : Int) by rfl, e1]
    unfold p3
    rw [mk_eqs.2.2]
  obtain ⟨C, hCe⟩ : ∃ C, p3 8 B = C := ⟨_, rfl⟩
  rw [hCe] at hC ht
  clear hCe
  obtain ⟨D, hDe⟩ : ∃ D, B / 16 + B = D := ⟨_, rfl⟩
  rw [hDe] at hD hC
  clear hDe
  have hCT : IntKind.u64.wrap ((C : Int) + (C : Int) / 256) = (t : Int) := by rw [IntKind.wrap_u64]; omega
  have hTU : IntKind.u64.wrap ((t : Int) + (t : Int) / 65536) = (u : Int) := by rw [IntKind.wrap_u64]; omega
  have hUV : IntKind.u64.wrap ((u : Int) + (u : Int) / 4294967296) = (v : Int) := by rw [IntKind.wrap_u64]; omega
  have hV : wrap64 (v : Int) = (v : Int) := wrap64_in (by omega) (by omega)
  have HF := Lib.hid (and127 v hvl)
  rw [hvm] at HF
  clear ht hu hv hx hAl hBl hvl hvm ho
  go_enter Tryd.func66, Tryd.ntmps66
  go_wp2
  go_ret
  exact ⟨ret_i HF.out, rfl⟩
end Go.Proofs.YtjbmpdibjfcafaaDoor
namespace Go.Proofs.YtjbmpdibjfcafaaDoor
open Go.RowKit

variable {w : World} {p q cap : Nat} {ws : List Nat} {size : Nat} {M : Nat → Bool}
def bitOf (ws : List Nat) (n : Nat) : Bool := (ws.getD (n / 64) 0).testBit (n % 64)
theorem cnt_word (ws : List Nat) (k : Nat) : cnt (bitOf ws) (64 * (k + 1)) = cnt (bitOf ws) (64 * k) + ones (ws.getD k 0) := by
  rw [Nat.mul_succ, cnt_add]
  congr 1
  unfold ones
  refine cnt_congr fun j hj => ?_
  unfold bitOf
  rw [show (64 * k + j) / 64 = k by omega, show (64 * k + j) % 64 = j by omega]
theorem WRep.cnt (h : WRep ws size M) : cnt (bitOf ws) (64 * ws.length) = cnt M size := by
  obtain ⟨d, hd⟩ : ∃ d, 64 * ws.length = size + d := ⟨64 * ws.length - size, by have := h.len; omega⟩
  have hb : ∀ n, bitOf ws n = (decide (n < size) && M n) := h.bit
  rw [hd, cnt_add, cnt_none (n := d) (fun k _ => by rw [hb, decide_eq_false (by omega)]; rfl)]
  exact cnt_congr fun k hk => by rw [hb]; simp [hk]
set_option maxHeartbeats 400000 in
theorem set_sum (h : SetAt w p q cap ws size M) :
    Calls Tryd.prog 65 #[.pointer (some ⟨p, 0, none⟩), .func (.func 66) #[] #[]] w fun e w' => e = .returned (.int .i64 (cnt M size)) ∧ w = w' := by
  obtain ⟨d0, d1, e0, e1⟩ := box2 h.box
  have HR := Lib.hid h.rep
  have HW := Lib.hid h.row
  have hle := words_le h
  have hcap : ws.length ≤ cap := by obtain ⟨_, _, _, hc, _⟩ := id h.row; rwa [List.length_map] at hc
  rw [← h.rep.cnt]
  obtain ⟨n, hn⟩ : ∃ n, ws.length = n := ⟨_, rfl⟩
  have HN := Lib.hid hn
  rw [hn] at d0 hle hcap ⊢
  clear h hn
  go_enter Tryd.func65, Tryd.ntmps65
  go_wp2_with fail
  go_loopw [5, 15] (fun s i wr => ∃ k : Nat, k ≤ n ∧ i = .int .i64 k ∧ s = .int .i64 (cnt (bitOf ws) (64 * k) : Nat) ∧ wr = w) (fun _ i _ => n - (intOf i).toNat)
  case atStart => exact ⟨0, by omega, rfl, rfl, rfl⟩
  case round =>
    obtain ⟨k, hk, rfl, rfl, rfl⟩ := hrel
    by_cases hlt : k < n
    · have dq := u64_cell HW.out (i := k) (by rw [HN.out]; exact hlt)
      have hX := HR.out.lt k
      have hb : (k : Int) < (n : Int) := by omega
      have hc := cnt_le (bitOf ws) (64 * k)
      have HC := Lib.hid (cnt_word ws k)
      have ho := ones_le (ws.getD k 0)
      obtain ⟨c, hce⟩ : ∃ c, cnt (bitOf ws) (64 * k) = c := ⟨_, rfl⟩
      rw [hce] at hc HC ⊢
      obtain ⟨X, hX0⟩ : ∃ X, ws.getD k 0 = X := ⟨_, rfl⟩
      rw [hX0] at dq hX HC ho
      clear hce hX0
      go_wp2_with (go_at_call 66; fail)
      refine (bits_ones X hX wr).mono ?_
      rintro e w' ⟨rfl, rfl⟩
      clear hX
      obtain ⟨o, hoe⟩ : ∃ o, ones X = o := ⟨_, rfl⟩
      rw [hoe] at HC ho ⊢
      clear hoe
      go_wp2
      go_roundw
      case rel => exact ⟨k + 1, by omega, by go_num, by rw [HC.out]; go_num, trivial⟩
      case measure => simp [intOf]; omega
    · obtain rfl : k = n := by omega
      go_wp2
      go_ret
      exact ⟨rfl, rfl⟩
theorem set_Count (h : SetAt w p q cap ws size M) :
    Calls Tryd.prog 27 #[.pointer (some ⟨p, 0, none⟩)] w fun e w' => e = .returned (.int .i64 (cnt M size)) ∧ w = w' := by
  go_enter Tryd.func27, Tryd.ntmps27
  go_wp2_with (go_at_call 65; fail)
  refine (set_sum h).mono ?_
  rintro e w' ⟨rfl, rfl⟩
  go_wp2
  go_ret
  exact ⟨rfl, rfl⟩
theorem set_Count_nil (w : World) : Calls Tryd.prog 27 #[.pointer none] w fun e w' => e = .returned (.int .i64 0) ∧ w = w' := by
  go_enter Tryd.func27, Tryd.ntmps27
  go_wp2_with (go_at_call 65; fail)
  have : Calls Tryd.prog 65 #[.pointer none, .func (.func 66) #[] #[]] w fun e w' => e = .returned (.int .i64 0) ∧ w = w' := by
    go_enter Tryd.func65, Tryd.ntmps65
    go_wp2
    go_ret
    exact ⟨rfl, rfl⟩
  refine this.mono ?_
  rintro e w' ⟨rfl, rfl⟩
  go_wp2
  go_ret
  exact ⟨rfl, rfl⟩
end Go.Proofs.YtjbmpdibjfcafaaDoor
