/- Sets of numbers: Put, walked. Conditions: none beyond what each says. -/
import Derived.Test.YtjbmpdibjfcafaaDoorSet
import Derived.BigRegion
namespace Go.Proofs.YtjbmpdibjfcafaaDoor
open Go.RowKit

variable {w : World} {p q cap : Nat} {ws : List Nat} {size : Nat} {M : Nat → Bool}
theorem set_Put_out (n : Int) (b : Bool) (h : SetAt w p q cap ws size M) (hn : mayB size n = false) :
    Calls Tryd.prog 17 #[.pointer (some ⟨p, 0, none⟩), .int .i64 n, .bool b] w fun e w' => e = .returned (.bool false) ∧ w = w' := by
  go_enter Tryd.func17, Tryd.ntmps17
  go_wp2_with (go_at_call 62; fail)
  refine (set_may n h).mono ?_
  rintro e w' ⟨rfl, rfl⟩
  rw [hn]
  go_wp2
  go_ret
  exact ⟨rfl, rfl⟩
theorem set_Put_same (n : Nat) (b : Bool) (h : SetAt w p q cap ws size M) (hn : n < size) (hb : M n = b) :
    Calls Tryd.prog 17 #[.pointer (some ⟨p, 0, none⟩), .int .i64 n, .bool b] w fun e w' => e = .returned (.bool false) ∧ w = w' := by
  have hm : mayB size n = true := by unfold mayB; simp [hn]
  go_enter Tryd.func17, Tryd.ntmps17
  go_wp2_with (go_at_call 62; fail)
  refine (set_may n h).mono ?_
  rintro e w' ⟨rfl, rfl⟩
  rw [hm]
  go_wp2_with (go_at_call 18; fail)
  refine (set_Has_ok n h hn).mono ?_
  rintro e w' ⟨rfl, rfl⟩
  rw [hb]
  clear h
  cases b
  all_goals
    go_wp2
    go_ret
    exact ⟨rfl, rfl⟩
theorem xor_u64 (X : Nat) (hX : X < 18446744073709551616) (j : Nat) (hj : j < 64) : bits .xor .u64 (X : Int) (2 ^ j) = ((X ^^^ 2 ^ j : Nat) : Int) := by
  have h2 : (2 : Nat) ^ j < 18446744073709551616 := Nat.lt_of_lt_of_le (Nat.pow_lt_pow_right (by omega) hj) (by decide)
  have := bits_xor_u64_nat X (2 ^ j) hX h2
  rw [← this]; simp
set_option maxHeartbeats 1000000 in
theorem set_Put_ok (n : Nat) (b : Bool) (h : SetAt w p q cap ws size M) (hn : n < size) (hb : M n ≠ b) :
    Calls Tryd.prog 17 #[.pointer (some ⟨p, 0, none⟩), .int .i64 n, .bool b] w fun e w' => e = .returned (.bool true) ∧ Touch (fun k => k = q) w w' ∧ SetAt w' p q cap (ws.set (n / 64) (ws.getD (n / 64) 0 ^^^ 2 ^ (n % 64))) size (fun k => if k = n then b else M k) := by
  have hm : mayB size n = true := by unfold mayB; simp [hn]
  obtain ⟨d0, d1, e0, e1⟩ := box2 h.box
  have hi := h.rep.idx hn
  have dq := u64_cell h.row hi
  have dqf := h.row.free (n / 64)
  have hX := h.rep.lt (n / 64)
  have hle := h.le
  have hne := h.ne
  obtain ⟨_, _, _, hcap, _⟩ := id h.row
  rw [List.length_map] at hcap
  have hMb : (M n == b) = false := by cases hx : M n <;> cases b <;> simp_all
  go_enter Tryd.func17, Tryd.ntmps17
  go_wp2_with (go_at_call 62; fail)
  refine (set_may n h).mono ?_
  rintro e w' ⟨rfl, rfl⟩
  rw [hm]
  go_wp2_with (go_at_call 18; fail)
  refine (set_Has_ok n h hn).mono ?_
  rintro e w' ⟨rfl, rfl⟩
  have H := Lib.hid h
  clear h hm
  obtain ⟨X, hX0⟩ : ∃ X, ws.getD (n / 64) 0 = X := ⟨_, rfl⟩
  rw [hX0] at dq hX
  have HX0 := Lib.hid hX0
  clear hX0
  have hbb : (n : Int) / 64 < (ws.length : Int) := by omega
  go_wp2_with fail
  go_region
  have hj : n % 64 < 64 := Nat.mod_lt _ (by omega)
  have hv : bits .xor .u64 (X : Int) (IntKind.u64.wrap (2 ^ (n % 64))) = ((X ^^^ 2 ^ (n % 64) : Nat) : Int) := by
    have h2 : (2 : Nat) ^ (n % 64) < 18446744073709551616 := Nat.lt_of_lt_of_le (Nat.pow_lt_pow_right (by omega) hj) (by decide)
    have h3 : IntKind.u64.wrap ((2 : Int) ^ (n % 64)) = 2 ^ (n % 64) := by
      rw [IntKind.wrap_u64]
      have h4 : ((2 : Int) ^ (n % 64)) = ((2 ^ (n % 64) : Nat) : Int) := by simp
      rw [h4]
      exact Int.emod_eq_of_lt (Int.natCast_nonneg _) (Int.ofNat_lt.2 h2)
    rw [h3]
    exact xor_u64 X hX _ hj
  rw [hv]
  have HV := Lib.hid hv
  clear hv dq dqf d0 d1 e0 e1
  go_wp2
  go_ret
  rw [HX0.out]
  refine ⟨rfl, Touch.drew (Touch.setCell (S := fun k => k = q) (Touch.refl _ _) (.inl rfl) _), ?_, ?_, ?_, H.out.le⟩
  · rw [List.length_set]; exact (set_other _ hne).trans H.out.box
  · rw [show u64s (ws.set (n / 64) (X ^^^ 2 ^ (n % 64))) = (u64s ws).set (n / 64) (.int .u64 ((X ^^^ 2 ^ (n % 64) : Nat) : Int)) from List.map_set ..]
    exact H.out.row.set _ _
  · have := H.out.rep.put hn hb
    rwa [HX0.out] at this
end Go.Proofs.YtjbmpdibjfcafaaDoor
