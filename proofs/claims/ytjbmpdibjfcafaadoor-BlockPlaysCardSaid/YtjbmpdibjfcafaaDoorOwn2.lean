/- Whose slot an address is, block by block; blocks of each class, counted: plain laws. Conditions: none. -/
import Derived.Test.YtjbmpdibjfcafaaDoorBlk4
import Derived.Test.YtjbmpdibjfcafaaDoorLaws07
namespace Go.Proofs.YtjbmpdibjfcafaaDoor
open Go.RowKit

/-- What the first blocks tell of an address: the last one whose slot it is. -/
def ownTo (c : Cf) (ks : List Int) (a : Int) : Nat → Int × Int × Bool
  | 0 => (0, 0, false)
  | b + 1 => if b < ks.length ∧ a ∈ sl c (ks.getD b 0) b then ((b : Int), ks.getD b 0, true) else ownTo c ks a b
variable {c : Cf} {ks : List Int} {a : Int}
theorem ownTo_none : ∀ m, (∀ b, b < m → ¬ (b < ks.length ∧ a ∈ sl c (ks.getD b 0) b)) → ownTo c ks a m = (0, 0, false)
  | 0, _ => rfl
  | m + 1, h => by
    unfold ownTo
    rw [if_neg (h m (Nat.lt_succ_self m))]
    exact ownTo_none m fun b hb => h b (by omega)
theorem ownTo_some {b : Nat} (hb : b < ks.length ∧ a ∈ sl c (ks.getD b 0) b) (hu : ∀ j, j < ks.length ∧ a ∈ sl c (ks.getD j 0) j → j = b) : ∀ m, b < m → ownTo c ks a m = ((b : Int), ks.getD b 0, true)
  | 0, h => by omega
  | m + 1, h => by
    unfold ownTo
    by_cases hm : m < ks.length ∧ a ∈ sl c (ks.getD m 0) m
    · rw [if_pos hm]
      obtain rfl := hu m hm
      rfl
    · rw [if_neg hm]
      rcases Nat.lt_or_ge b m with h1 | h1
      · exact ownTo_some hb hu m h1
      · obtain rfl : b = m := by omega
        exact absurd hb hm
/-- A triple, told as Owner tells it. -/
def triV (t : Int × Int × Bool) : Value := .tuple #[.int .i64 t.1, .int .i64 t.2.1, .bool t.2.2]
theorem ownTo_end {n : Nat} (hc : c.ok = true) (hn : (n : Int) = c.c0) (hl : ks.length ≤ n) (hk : ∀ j, j < ks.length → isCls (ks.getD j 0) = true) : owV c ks a (ownB c ks a) = triV (ownTo c ks a n) := by
  cases h : ownB c ks a
  · rw [ownTo_none n]
    · rfl
    · rintro b hb ⟨h1, h2⟩
      obtain ⟨h3, _⟩ := own_of_mem hc h1 (hk b h1) (by omega) h2
      rw [h] at h3
      cases h3
  · obtain ⟨b, h1, h2, h3, h4, h5⟩ := mem_of_own hc h
    rw [ownTo_some (b := b) ⟨h2, h5⟩ (fun j hj => ?_) n (by omega)]
    · show Value.tuple #[.int .i64 ((a - 1) / c.c1), .int .i64 (ks.getD ((a - 1) / c.c1).toNat 0), .bool true] = _
      rw [h1]
      rfl
    · obtain ⟨_, h6⟩ := own_of_mem hc hj.1 (hk j hj.1) (by omega) hj.2
      rw [h1] at h6
      omega
/-- How many blocks of a class there are. -/
def cntK (ks : List Int) (k : Int) (n : Nat) : Nat := cnt (fun j : Nat => decide (j < ks.length) && (ks.getD j 0 == k)) n
theorem cntK_sum (hk : ∀ j, j < ks.length → isCls (ks.getD j 0) = true) : ∀ n, n ≤ ks.length → cntK ks 0 n + cntK ks 1 n + cntK ks 2 n + cntK ks 3 n = n
  | 0, _ => rfl
  | n + 1, h => by
    have ih := cntK_sum hk n (by omega)
    obtain ⟨h0, h1⟩ := isCls_iff.1 (hk n (by omega))
    have hs : ∀ k : Int, cntK ks k (n + 1) = cntK ks k n + (decide (n < ks.length) && (ks.getD n 0 == k)).toNat := fun k => rfl
    rw [hs, hs, hs, hs, decide_eq_true (show n < ks.length by omega)]
    simp only [Bool.true_and]
    rcases (show ks.getD n 0 = 0 ∨ ks.getD n 0 = 1 ∨ ks.getD n 0 = 2 ∨ ks.getD n 0 = 3 by omega) with e | e | e | e <;> rw [e] <;> simp <;> omega
theorem cntK_stop (k : Int) : ∀ d, cntK ks k (ks.length + d) = cntK ks k ks.length
  | 0 => rfl
  | d + 1 => by
    show cntK ks k (ks.length + d) + (decide (ks.length + d < ks.length) && (ks.getD (ks.length + d) 0 == k)).toNat = _
    rw [cntK_stop k d, decide_eq_false (show ¬ ks.length + d < ks.length by omega)]
    rfl
theorem cntK_all {n : Nat} (hk : ∀ j, j < ks.length → isCls (ks.getD j 0) = true) (hn : ks.length ≤ n) : cntK ks 0 n + cntK ks 1 n + cntK ks 2 n + cntK ks 3 n = ks.length := by
  obtain ⟨d, rfl⟩ : ∃ d, n = ks.length + d := ⟨n - ks.length, by omega⟩
  rw [cntK_stop, cntK_stop, cntK_stop, cntK_stop]
  exact cntK_sum hk _ (Nat.le_refl _)
theorem cntK_none {k : Int} (hk : ∀ j, j < ks.length → isCls (ks.getD j 0) = true) (h : isCls k = false) : ∀ n, cntK ks k n = 0
  | 0 => rfl
  | n + 1 => by
    show cntK ks k n + (decide (n < ks.length) && (ks.getD n 0 == k)).toNat = 0
    rw [cntK_none hk h n]
    by_cases hn : n < ks.length
    · have : (ks.getD n 0 == k) = false := by
        cases e : ks.getD n 0 == k
        · rfl
        · have h1 := hk n hn
          rw [beq_iff_eq.1 e, h] at h1
          cases h1
      rw [this]
      simp
    · rw [decide_eq_false hn]
      rfl
theorem cntK_le (k : Int) (n : Nat) : cntK ks k n ≤ n := cnt_le _ _
end Go.Proofs.YtjbmpdibjfcafaaDoor
