/- Sets of numbers: Put and Has of any number. Conditions: none beyond what each says. -/
import Derived.Test.YtjbmpdibjfcafaaDoorSet2
namespace Go.Proofs.YtjbmpdibjfcafaaDoor
open Go.RowKit

variable {w : World} {p q cap : Nat} {ws : List Nat} {size : Nat} {M : Nat → Bool}
def hasB (M : Nat → Bool) (size : Nat) (n : Int) : Bool := mayB size n && M n.toNat
def putB (M : Nat → Bool) (size : Nat) (n : Int) (b : Bool) : Bool := mayB size n && (M n.toNat != b)
def putM (M : Nat → Bool) (size : Nat) (n : Int) (b : Bool) : Nat → Bool := fun k => if mayB size n = true ∧ k = n.toNat then b else M k
theorem may_nat {size : Nat} {n : Int} (h : mayB size n = true) : ∃ k : Nat, n = k ∧ k < size := by
  unfold mayB at h
  simp only [Bool.and_eq_true, decide_eq_true_eq] at h
  exact ⟨n.toNat, by omega, by omega⟩
theorem set_Has (n : Int) (h : SetAt w p q cap ws size M) :
    Calls Tryd.prog 18 #[.pointer (some ⟨p, 0, none⟩), .int .i64 n] w fun e w' => e = .returned (.bool (hasB M size n)) ∧ w = w' := by
  cases hm : mayB size n
  · refine (set_Has_no n h hm).mono fun e w' g => ⟨?_, g.2⟩
    rw [g.1]; unfold hasB; rw [hm]; rfl
  · obtain ⟨k, rfl, hk⟩ := may_nat hm
    refine (set_Has_ok k h hk).mono fun e w' g => ⟨?_, g.2⟩
    rw [g.1]; unfold hasB; rw [hm]; rfl
theorem set_Put (n : Int) (b : Bool) (h : SetAt w p q cap ws size M) :
    Calls Tryd.prog 17 #[.pointer (some ⟨p, 0, none⟩), .int .i64 n, .bool b] w fun e w' => ∃ ws', e = .returned (.bool (putB M size n b)) ∧ Touch (fun k => k = q) w w' ∧ SetAt w' p q cap ws' size (putM M size n b) := by
  cases hm : mayB size n
  · refine (set_Put_out n b h hm).mono fun e w' g => ⟨ws, ?_, ?_, ?_⟩
    · rw [g.1]; unfold putB; rw [hm]; rfl
    · rw [← g.2]; exact Touch.refl _ _
    · rw [← g.2, show putM M size n b = M from funext fun k => by unfold putM; rw [if_neg (by rw [hm]; simp)]]; exact h
  · obtain ⟨k, rfl, hk⟩ := may_nat hm
    by_cases hb : M k = b
    · refine (set_Put_same k b h hk hb).mono fun e w' g => ⟨ws, ?_, ?_, ?_⟩
      · rw [g.1]; unfold putB; rw [hm]; simp [hb]
      · rw [← g.2]; exact Touch.refl _ _
      · rw [← g.2, show putM M size k b = M from funext fun j => by
          unfold putM
          split
          · rename_i hh
            rw [hh.2, ← hb]; rfl
          · rfl]; exact h
    · refine (set_Put_ok k b h hk hb).mono fun e w' g => ⟨ws.set (k / 64) (ws.getD (k / 64) 0 ^^^ 2 ^ (k % 64)), ?_, g.2.1, ?_⟩
      · rw [g.1]; unfold putB; rw [hm]; simp [hb]
      · have := g.2.2
        rwa [show (fun j => if j = k then b else M j) = putM M size k b from funext fun j => by unfold putM; rw [hm]; simp] at this
end Go.Proofs.YtjbmpdibjfcafaaDoor
