/- Sets of numbers as words: plain laws; no program in them. Conditions: none. -/
import Derived.Test.YtjbmpdibjfcafaaDoorRep
namespace Go.Proofs.YtjbmpdibjfcafaaDoor

structure WRep (ws : List Nat) (size : Nat) (M : Nat → Bool) : Prop where
  len : ws.length = (size + 63) / 64
  lt : ∀ i, ws.getD i 0 < 18446744073709551616
  bit : ∀ n, (ws.getD (n / 64) 0).testBit (n % 64) = (decide (n < size) && M n)

theorem getD_beyond {ws : List Nat} {i : Nat} (h : ws.length ≤ i) : ws.getD i 0 = 0 := by
  rw [List.getD_eq_getElem?_getD, List.getElem?_eq_none h]; rfl
theorem getD_set' {ws : List Nat} {i j x : Nat} (hi : i < ws.length) : (ws.set i x).getD j 0 = if i = j then x else ws.getD j 0 := by
  rw [List.getD_eq_getElem?_getD, List.getD_eq_getElem?_getD, List.getElem?_set]
  by_cases hij : i = j
  · subst hij; simp [hi]
  · simp [hij]
theorem WRep.zero (size : Nat) : WRep (List.replicate ((size + 63) / 64) 0) size (fun _ => false) := by
  have h0 : ∀ i, (List.replicate ((size + 63) / 64) 0).getD i 0 = 0 := by
    intro i
    rw [List.getD_eq_getElem?_getD, List.getElem?_replicate]
    split <;> rfl
  exact ⟨by simp, fun i => by rw [h0]; omega, fun n => by rw [h0]; simp⟩
theorem WRep.has {ws : List Nat} {size n : Nat} {M : Nat → Bool} (h : WRep ws size M) (hn : n < size) : decide (ws.getD (n / 64) 0 / 2 ^ (n % 64) % 2 = 1) = M n := by
  have := h.bit n
  rw [Nat.testBit_eq_decide_div_mod_eq, decide_eq_true hn, Bool.true_and] at this
  exact this
theorem WRep.idx {ws : List Nat} {size n : Nat} {M : Nat → Bool} (h : WRep ws size M) (hn : n < size) : n / 64 < ws.length := by rw [h.len]; omega
theorem WRep.put {ws : List Nat} {size n : Nat} {M : Nat → Bool} {b : Bool} (h : WRep ws size M) (hn : n < size) (hb : M n ≠ b) : WRep (ws.set (n / 64) (ws.getD (n / 64) 0 ^^^ 2 ^ (n % 64))) size (fun k => if k = n then b else M k) := by
  have hi := h.idx hn
  have h2 : (2 : Nat) ^ (n % 64) < 2 ^ 64 := Nat.pow_lt_pow_right (by omega) (by omega)
  refine ⟨by rw [List.length_set]; exact h.len, fun i => ?_, fun k => ?_⟩
  · rw [getD_set' hi]
    split
    · exact Nat.xor_lt_two_pow (n := 64) (h.lt _) h2
    · exact h.lt i
  · rw [getD_set' hi]
    by_cases hk : n / 64 = k / 64
    · rw [if_pos hk, Nat.testBit_xor, Nat.testBit_two_pow]
      have h1 := h.bit k
      rw [← hk] at h1
      rw [h1]
      by_cases hkn : k = n
      · subst hkn
        rw [if_pos rfl, decide_eq_true hn]
        cases hm : M k <;> cases b <;> simp_all
      · have : n % 64 ≠ k % 64 := by omega
        rw [if_neg hkn, decide_eq_false this]; simp
    · rw [if_neg hk, h.bit k, if_neg (by rintro rfl; exact hk rfl)]
theorem WRep.eq {ws us : List Nat} {size : Nat} {M M' : Nat → Bool} (h : WRep ws size M) (g : WRep us size M') : ws = us ↔ ∀ n, n < size → M n = M' n := by
  constructor
  · rintro rfl n hn
    have h1 := h.bit n
    have h2 := g.bit n
    rw [h1] at h2
    simpa [hn] using h2
  · intro hh
    apply List.ext_getElem (by rw [h.len, g.len])
    intro i h1 h2
    have e1 : ws.getD i 0 = ws[i] := by simp [List.getD_eq_getElem?_getD, h1]
    have e2 : us.getD i 0 = us[i] := by simp [List.getD_eq_getElem?_getD, h2]
    rw [← e1, ← e2]
    apply Nat.eq_of_testBit_eq
    intro j
    by_cases hj : j < 64
    · have a := h.bit (i * 64 + j)
      have b := g.bit (i * 64 + j)
      rw [show (i * 64 + j) / 64 = i by omega, show (i * 64 + j) % 64 = j by omega] at a b
      rw [a, b]
      by_cases hs : i * 64 + j < size
      · rw [hh _ hs]
      · simp [hs]
    · have p : (18446744073709551616 : Nat) ≤ 2 ^ j := Nat.le_trans (by decide : (18446744073709551616 : Nat) ≤ 2 ^ 64) (Nat.pow_le_pow_right (by omega) (by omega))
      rw [Nat.testBit_lt_two_pow (Nat.lt_of_lt_of_le (h.lt i) p), Nat.testBit_lt_two_pow (Nat.lt_of_lt_of_le (g.lt i) p)]
end Go.Proofs.YtjbmpdibjfcafaaDoor
