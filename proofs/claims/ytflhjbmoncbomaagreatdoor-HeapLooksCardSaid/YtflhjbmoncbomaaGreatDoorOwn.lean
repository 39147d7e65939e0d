/- Slots of a table's blocks, and whose they are: plain laws. Conditions: none. -/
import Derived.Test.YtflhjbmoncbomaaGreatDoorBlk2
namespace Go.Proofs.YtflhjbmoncbomaaGreatDoor
open Go.RowKit

/-- The addresses of a block's slots. -/
def sl (c : Cf) (k b : Int) : List Int := slL c.c0 c.c1 c.c2 c.c3 c.c4 c.c5 c.c6 k b (List.range (perBlock c.c1 k).toNat)
/-- What stands there, if all is right. -/
theorem sl_eq {c : Cf} {k b : Int} (hc : c.ok = true) (hk : isCls k = true) (b0 : 0 ≤ b) (b1 : b < c.c0) : sl c k b = (List.range (perBlock c.c1 k).toNat).map fun (i : Nat) => plA c.c1 k b i 0 := by
  have hp : ∀ i : Nat, i < (perBlock c.c1 k).toNat → slA c.c0 c.c1 c.c2 c.c3 c.c4 c.c5 c.c6 k b i = plA c.c1 k b i 0 ∧ 0 < plA c.c1 k b i 0 := fun i hi => by
    have z0 := clsSize_lo hk
    have h := plOk_iff.2 ⟨hc, hk, ⟨b0, b1⟩, ⟨(by omega : (0 : Int) ≤ i), (by omega : (i : Int) < perBlock c.c1 k)⟩, Int.le_refl 0, (by omega : (0 : Int) < clsSize k)⟩
    obtain ⟨⟨m0, m1⟩, ⟨m2, m3⟩, m4⟩ := pl_bd h
    refine ⟨?_, by unfold plA; omega⟩
    unfold slA
    rw [h]
    rfl
  unfold sl slL
  rw [List.filter_eq_self.2]
  · apply List.map_congr_left
    intro i hi
    exact (hp i (List.mem_range.1 hi)).1
  · intro a ha
    obtain ⟨i, hi, rfl⟩ := List.mem_map.1 ha
    have := hp i (List.mem_range.1 hi)
    rw [this.1, decide_eq_true this.2]
theorem sl_no {c : Cf} {k b : Int} (h : c.ok = false ∨ isCls k = false ∨ b < 0 ∨ c.c0 ≤ b) : sl c k b = [] := by
  have hp : ∀ i : Nat, slA c.c0 c.c1 c.c2 c.c3 c.c4 c.c5 c.c6 k b i = 0 := fun i => by
    have : plOk c.c0 c.c1 c.c2 c.c3 c.c4 c.c5 c.c6 k b i 0 = false := by
      cases hh : plOk c.c0 c.c1 c.c2 c.c3 c.c4 c.c5 c.c6 k b i 0
      · rfl
      · obtain ⟨h1, h2, ⟨h3, h4⟩, _⟩ := plOk_iff.1 hh
        rcases h with h | h | h | h
        · rw [show c.ok = true from h1] at h; cases h
        · rw [h2] at h; cases h
        · omega
        · omega
    unfold slA
    rw [this]
    rfl
  unfold sl slL
  rw [List.filter_eq_nil_iff]
  intro a ha
  obtain ⟨i, _, rfl⟩ := List.mem_map.1 ha
  rw [hp]
  simp
theorem sl_len {c : Cf} {k b : Int} (hc : c.ok = true) (hk : isCls k = true) (b0 : 0 ≤ b) (b1 : b < c.c0) : (sl c k b).length = (perBlock c.c1 k).toNat := by rw [sl_eq hc hk b0 b1]; simp
theorem per_cls {c : Cf} {k : Int} (hc : c.ok = true) (hk : isCls k = true) : 1 ≤ perBlock c.c1 k ∧ perBlock c.c1 k ≤ 128 := by
  obtain ⟨_, ⟨u1, v1⟩, _⟩ := cfgOk_iff.1 hc
  obtain ⟨p0, p1, _, _⟩ := per_facts c.c1 k hk u1 v1
  exact ⟨p0, p1⟩
theorem sl_le {c : Cf} {k b : Int} : (sl c k b).length ≤ 128 := by
  by_cases hk : isCls k = true
  · by_cases hc : c.ok = true
    · have h1 := (per_cls hc hk).2
      have h2 := slL_len (c0 := c.c0) (c1 := c.c1) (c2 := c.c2) (c3 := c.c3) (c4 := c.c4) (c5 := c.c5) (c6 := c.c6) (k := k) (b := b) (l := List.range (perBlock c.c1 k).toNat)
      rw [List.length_range] at h2
      unfold sl
      omega
    · rw [sl_no (.inl (by simpa using hc))]; simp
  · rw [sl_no (.inr (.inl (by simpa using hk)))]; simp
/-- Whether an address is a slot's of a block that is assigned. -/
def ownB (c : Cf) (ks : List Int) (a : Int) : Bool :=
  blkOk c.c0 c.c1 c.c2 c.c3 c.c4 c.c5 c.c6 a && (decide (((a - 1) / c.c1).toNat < ks.length) && (fdOk c.c0 c.c1 c.c2 c.c3 c.c4 c.c5 c.c6 (ks.getD ((a - 1) / c.c1).toNat 0) a && decide ((a - 1 - (a - 1) / c.c1 * c.c1) % clsSize (ks.getD ((a - 1) / c.c1).toNat 0) = 0)))
theorem own_of_mem {c : Cf} {ks : List Int} {b : Nat} {a : Int} (hc : c.ok = true) (hb : b < ks.length) (hk : isCls (ks.getD b 0) = true) (hb1 : (b : Int) < c.c0) (h : a ∈ sl c (ks.getD b 0) b) : ownB c ks a = true ∧ (a - 1) / c.c1 = b := by
  rw [sl_eq hc hk (by omega) hb1] at h
  obtain ⟨i, hi, rfl⟩ := List.mem_map.1 h
  have hi := List.mem_range.1 hi
  obtain ⟨k, hke⟩ : ∃ k, ks.getD b 0 = k := ⟨_, rfl⟩
  rw [hke] at hk hi ⊢
  have z0 := clsSize_lo hk
  have hp := plOk_iff.2 ⟨hc, hk, ⟨(by omega : (0 : Int) ≤ b), hb1⟩, ⟨(by omega : (0 : Int) ≤ i), (by omega : (i : Int) < perBlock c.c1 k)⟩, Int.le_refl 0, (by omega : (0 : Int) < clsSize k)⟩
  obtain ⟨e1, e2, e3, e4⟩ := pl_where hp
  refine ⟨?_, e1⟩
  unfold ownB
  rw [e1, e4, show ((b : Int)).toNat = b by omega, hke, decide_eq_true hb, e3]
  have : fdOk c.c0 c.c1 c.c2 c.c3 c.c4 c.c5 c.c6 k (plA c.c1 k b i 0) = true := fdOk_iff.2 ⟨e4, hk, by rw [e1, e2]; omega⟩
  rw [this]
  rfl
theorem mem_of_own {c : Cf} {ks : List Int} {a : Int} (hc : c.ok = true) (h : ownB c ks a = true) : ∃ b : Nat, (a - 1) / c.c1 = b ∧ b < ks.length ∧ (b : Int) < c.c0 ∧ isCls (ks.getD b 0) = true ∧ a ∈ sl c (ks.getD b 0) b := by
  unfold ownB at h
  simp only [Bool.and_eq_true, decide_eq_true_eq] at h
  obtain ⟨h1, h2, h3, h4⟩ := h
  obtain ⟨_, a1, a2⟩ := blkOk_iff.1 h1
  obtain ⟨⟨u0, v0⟩, ⟨u1, v1⟩, _⟩ := cfgOk_iff.1 hc
  have q0 : 0 ≤ (a - 1) / c.c1 := Int.ediv_nonneg (by omega) (by omega)
  obtain ⟨b, hb⟩ := Int.eq_ofNat_of_zero_le q0
  have q1 : (a - 1) / c.c1 < c.c0 := Int.ediv_lt_of_lt_mul (by omega) (by omega)
  rw [hb] at h2 h3 h4 q1
  rw [show ((b : Int)).toNat = b by omega] at h2 h3 h4
  obtain ⟨k, hke⟩ : ∃ k, ks.getD b 0 = k := ⟨_, rfl⟩
  rw [hke] at h3 h4
  obtain ⟨_, hk, h5⟩ := fdOk_iff.1 h3
  rw [hb] at h5
  refine ⟨b, hb, h2, q1, by rw [hke]; exact hk, ?_⟩
  rw [hke, sl_eq hc hk (by omega) q1]
  have z0 := clsSize_lo hk
  obtain ⟨r, hr⟩ : ∃ r, a - 1 - (b : Int) * c.c1 = r := ⟨_, rfl⟩
  rw [hr] at h4 h5
  have hr0 : 0 ≤ r := by
    have := Int.ediv_mul_le (a - 1) (show c.c1 ≠ 0 by omega)
    rw [hb] at this
    omega
  obtain ⟨i, hi⟩ := Int.eq_ofNat_of_zero_le (Int.ediv_nonneg hr0 (show 0 ≤ clsSize k by omega))
  rw [hi] at h5
  refine List.mem_map.2 ⟨i, List.mem_range.2 (by omega), ?_⟩
  have h6 := Int.mul_ediv_add_emod r (clsSize k)
  rw [h4, hi, Int.mul_comm] at h6
  unfold plA
  omega
/-- The slots of a block, if it is assigned. -/
def slAt (c : Cf) (ks : List Int) (m : Nat) : List Int := if m < ks.length then sl c (ks.getD m 0) m else []
/-- All slots of the first blocks that are assigned, one by one. -/
def allSl (c : Cf) (ks : List Int) : Nat → List Int
  | 0 => []
  | m + 1 => allSl c ks m ++ slAt c ks m
theorem slAt_le {c : Cf} {ks : List Int} {m : Nat} : (slAt c ks m).length ≤ 128 := by
  unfold slAt
  split
  · exact sl_le
  · simp
theorem allSl_le {c : Cf} {ks : List Int} : ∀ m, (allSl c ks m).length ≤ 128 * m
  | 0 => by simp [allSl]
  | m + 1 => by
    have h1 := allSl_le (c := c) (ks := ks) m
    have h2 := slAt_le (c := c) (ks := ks) (m := m)
    simp only [allSl, List.length_append]
    omega
theorem allSl_prefix {c : Cf} {ks : List Int} (m : Nat) : ∀ d, allSl c ks m <+: allSl c ks (m + d)
  | 0 => List.prefix_rfl
  | d + 1 => (allSl_prefix m d).trans (List.prefix_append _ _)
end Go.Proofs.YtflhjbmoncbomaaGreatDoor
