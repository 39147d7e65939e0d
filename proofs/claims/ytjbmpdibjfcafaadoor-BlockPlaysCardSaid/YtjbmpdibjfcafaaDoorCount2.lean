/- Sets of numbers: Count, walked. Conditions: none. -/
import Derived.Test.YtjbmpdibjfcafaaDoorCount
namespace Go.Proofs.YtjbmpdibjfcafaaDoor
open Go.RowKit

variable {w : World} {p q cap : Nat} {ws : List Nat} {size : Nat} {M : Nat → Bool}
def bitOf (ws : List Nat) (n : Nat) : Bool := (ws.getD (n / 64) 0).testBit (n % 64)
theorem cnt_word (ws : List Nat) (k : Nat) : cnt (bitOf ws) (64 * (k + 1)) = cnt (bitOf ws) (64 * k) + ones (ws.getD k 0) := by
  rw [Nat.mul_succ, cnt_add]
  congr 1
  unfold ones
  refine cnt_congr fun j hj => ?_
  unfold bitOf
  rw [show (64 * k + j) / 64 = k by omega, show (64 * k + j) % 64 = j by omega]
theorem WRep.cnt (h : WRep ws size M) : cnt (bitOf ws) (64 * ws.length) = cnt M size := by
  obtain ⟨d, hd⟩ : ∃ d, 64 * ws.length = size + d := ⟨64 * ws.length - size, by have := h.len; omega⟩
  have hb : ∀ n, bitOf ws n = (decide (n < size) && M n) := h.bit
  rw [hd, cnt_add, cnt_none (n := d) (fun k _ => by rw [hb, decide_eq_false (by omega)]; rfl)]
  exact cnt_congr fun k hk => by rw [hb]; simp [hk]
set_option maxHeartbeats 400000 in
theorem set_sum (h : SetAt w p q cap ws size M) :
    Calls Tryd.prog 65 #[.pointer (some ⟨p, 0, none⟩), .func (.func 66) #[] #[]] w fun e w' => e = .returned (.int .i64 (cnt M size)) ∧ w = w' := by
  obtain ⟨d0, d1, e0, e1⟩ := box2 h.box
  have HR := Lib.hid h.rep
  have HW := Lib.hid h.row
  have hle := words_le h
  have hcap : ws.length ≤ cap := by obtain ⟨_, _, _, hc, _⟩ := id h.row; rwa [List.length_map] at hc
  rw [← h.rep.cnt]
  obtain ⟨n, hn⟩ : ∃ n, ws.length = n := ⟨_, rfl⟩
  have HN := Lib.hid hn
  rw [hn] at d0 hle hcap ⊢
  clear h hn
  go_enter Tryd.func65, Tryd.ntmps65
  go_wp2_with fail
  go_loopw [5, 15] (fun s i wr => ∃ k : Nat, k ≤ n ∧ i = .int .i64 k ∧ s = .int .i64 (cnt (bitOf ws) (64 * k) : Nat) ∧ wr = w) (fun _ i _ => n - (intOf i).toNat)
  case atStart => exact ⟨0, by omega, rfl, rfl, rfl⟩
  case round =>
    obtain ⟨k, hk, rfl, rfl, rfl⟩ := hrel
    by_cases hlt : k < n
    · have dq := u64_cell HW.out (i := k) (by rw [HN.out]; exact hlt)
      have hX := HR.out.lt k
      have hb : (k : Int) < (n : Int) := by omega
      have hc := cnt_le (bitOf ws) (64 * k)
      have HC := Lib.hid (cnt_word ws k)
      have ho := ones_le (ws.getD k 0)
      obtain ⟨c, hce⟩ : ∃ c, cnt (bitOf ws) (64 * k) = c := ⟨_, rfl⟩
      rw [hce] at hc HC ⊢
      obtain ⟨X, hX0⟩ : ∃ X, ws.getD k 0 = X := ⟨_, rfl⟩
      rw [hX0] at dq hX HC ho
      clear hce hX0
      go_wp2_with (go_at_call 66; fail)
      refine (bits_ones X hX wr).mono ?_
      rintro e w' ⟨rfl, rfl⟩
      clear hX
      obtain ⟨o, hoe⟩ : ∃ o, ones X = o := ⟨_, rfl⟩
      rw [hoe] at HC ho ⊢
      clear hoe
      go_wp2
      go_roundw
      case rel => exact ⟨k + 1, by omega, by go_num, by rw [HC.out]; go_num, trivial⟩
      case measure => simp [intOf]; omega
    · obtain rfl : k = n := by omega
      go_wp2
      go_ret
      exact ⟨rfl, rfl⟩
theorem set_Count (h : SetAt w p q cap ws size M) :
    Calls Tryd.prog 27 #[.pointer (some ⟨p, 0, none⟩)] w fun e w' => e = .returned (.int .i64 (cnt M size)) ∧ w = w' := by
  go_enter Tryd.func27, Tryd.ntmps27
  go_wp2_with (go_at_call 65; fail)
  refine (set_sum h).mono ?_
  rintro e w' ⟨rfl, rfl⟩
  go_wp2
  go_ret
  exact ⟨rfl, rfl⟩
theorem set_Count_nil (w : World) : Calls Tryd.prog 27 #[.pointer none] w fun e w' => e = .returned (.int .i64 0) ∧ w = w' := by
  go_enter Tryd.func27, Tryd.ntmps27
  go_wp2_with (go_at_call 65; fail)
  have : Calls Tryd.prog 65 #[.pointer none, .func (.func 66) #[] #[]] w fun e w' => e = .returned (.int .i64 0) ∧ w = w' := by
    go_enter Tryd.func65, Tryd.ntmps65
    go_wp2
    go_ret
    exact ⟨rfl, rfl⟩
  refine this.mono ?_
  rintro e w' ⟨rfl, rfl⟩
  go_wp2
  go_ret
  exact ⟨rfl, rfl⟩
end Go.Proofs.YtjbmpdibjfcafaaDoor
