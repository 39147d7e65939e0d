/- Sets of numbers: Next, walked. Conditions: the library's table reads as laid. -/
import Derived.Test.YtjbmpdibjfcafaaDoorTz
import Derived.WalkMore
namespace Go.Proofs.YtjbmpdibjfcafaaDoor
open Go.RowKit

variable {w : World} {p q cap : Nat} {ws : List Nat} {size : Nat} {M : Nat → Bool}
set_option maxHeartbeats 1000000 in
theorem set_Next (n : Int) (h : SetAt w p q cap ws size M) (hT : Tab w) :
    Calls Tryd.prog 24 #[.pointer (some ⟨p, 0, none⟩), .int .i64 n] w fun e w' => ∃ o, NextR M size n.toNat o ∧ e = .returned (.tuple #[.int .i64 (o.getD 0 : Nat), .bool o.isSome]) ∧ w = w' := by
  obtain ⟨d0, d1, e0, e1⟩ := box2 h.box
  have hle := h.le
  obtain ⟨_, _, _, hcap, _⟩ := id h.row
  rw [List.length_map] at hcap
  have HS := Lib.hid (And.intro h hT)
  clear h hT
  obtain ⟨m, hm⟩ : ∃ m : Nat, n.toNat = m := ⟨_, rfl⟩
  rw [hm]
  have hmx : (if n < 0 then (0 : Int) else n) = (m : Int) := by split <;> omega
  clear hm
  go_enter Tryd.func24, Tryd.ntmps24
  go_wp2_with fail
  go_step3
  go_wp2_with fail
  go_step3
  go_wp2_with fail
  go_loopw [1] (fun i wr => ∃ k : Nat, i = .int .i64 k ∧ wr = w ∧ m ≤ k ∧ k ≤ m + 2097216 ∧ Hid (∀ j, m ≤ j → j < k → j < size → M j = false)) (fun i _ => size - (intOf i).toNat)
  case atStart => exact ⟨m, rfl, rfl, Nat.le_refl _, by omega, fun j h1 h2 => by omega⟩
  case round =>
    obtain ⟨k, rfl, rfl, hmk, hk, HM⟩ := hrel
    go_wp2_with (go_at_call 62; fail)
    refine (set_may k HS.out.1).mono ?_
    rintro e w' ⟨rfl, rfl⟩
    by_cases hks : k < size
    · rw [show mayB size k = true by unfold mayB; simp [hks]]
      have hi := HS.out.1.rep.idx hks
      have dq := u64_cell HS.out.1.row hi
      have hX := HS.out.1.rep.lt (k / 64)
      have HL := Lib.hid (HS.out.1.rep.left_none (n := k))
      have HL' := Lib.hid (HS.out.1.rep.left_some (n := k))
      obtain ⟨X, hX0⟩ : ∃ X, ws.getD (k / 64) 0 = X := ⟨_, rfl⟩
      rw [hX0] at dq hX HL HL'
      clear hX0
      have hb : (k : Int) / 64 < (ws.length : Int) := by omega
      obtain ⟨L, hL⟩ : ∃ L, X / 2 ^ (k % 64) = L := ⟨_, rfl⟩
      rw [hL] at HL HL'
      have hXL : (X : Int) / 2 ^ (k % 64) = (L : Int) := by rw [← hL]; simp
      have hL64 : L < 18446744073709551616 := by rw [← hL]; exact Nat.lt_of_le_of_lt (Nat.div_le_self _ _) hX
      clear hL
      by_cases hL0 : L = 0
      · subst hL0
        have hXL0 : (X : Int) / 2 ^ (k % 64) = 0 := hXL
        clear hXL
        go_wp2_with fail
        refine ⟨⟨k + (64 - k % 64), by go_num, trivial, by omega, by omega, fun j h1 h2 h3 => ?_⟩, by simp [intOf]; omega⟩
        by_cases hjk : j < k
        · exact HM.out j h1 hjk h3
        · exact HL.out trivial j (by omega) h2 h3
      · have hL0' : ¬ (L : Int) = 0 := by omega
        have HN := Lib.hid (HL'.out hL0)
        go_wp2_with (go_at_call 64; fail)
        rw [hXL]
        refine (bits_tz64 L hL64 wr HS.out.2).mono ?_
        rintro e w' ⟨rfl, rfl⟩
        obtain ⟨c, hc⟩ : ∃ c, Lib.ctz 64 L = c := ⟨_, rfl⟩
        rw [hc] at HN ⊢
        have hkc : k + c < size := HN.out.2.1
        clear hc hXL
        go_wp2_with (go_at_call 62; fail)
        refine (set_may (k + c : Nat) HS.out.1).mono ?_
        rintro e w' ⟨rfl, rfl⟩
        rw [show mayB size (k + c : Nat) = true by unfold mayB; simp; omega]
        go_wp2_with fail
        rw [Exit.noGoto_ret]
        go_ret2
        exact ⟨some (k + c), ⟨by omega, hkc, HN.out.2.2.1, fun j h1 h2 => by
          by_cases hjk : j < k
          · exact HM.out j h1 hjk (by omega)
          · exact HN.out.2.2.2 j (by omega) h2⟩, rfl, rfl⟩
    · rw [show mayB size k = false by unfold mayB; simp [hks]]
      go_wp2_with (go_at_call 62; fail)
      refine (set_may k HS.out.1).mono ?_
      rintro e w' ⟨rfl, rfl⟩
      rw [show mayB size k = false by unfold mayB; simp [hks]]
      go_wp2_with fail
      rw [Exit.noGoto_ret]
      go_ret2
      exact ⟨none, fun j h1 h2 => HM.out j h1 (by omega) h2, rfl, rfl⟩
end Go.Proofs.YtjbmpdibjfcafaaDoor
