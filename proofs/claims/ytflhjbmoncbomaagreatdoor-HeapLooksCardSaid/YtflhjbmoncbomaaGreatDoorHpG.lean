/- Objects, free slots and slots in hand part the arena: plain laws; and what the law asks of it, walked. Conditions: the tables of limits, of sizes and of de Bruijn's bits read as laid. -/
import Derived.Test.YtflhjbmoncbomaaGreatDoorHpF
import Derived.Test.YtflhjbmoncbomaaGreatDoorHpE
import Derived.Test.YtflhjbmoncbomaaGreatDoorApp
import Derived.Test.YtflhjbmoncbomaaGreatDoorInts
namespace Go.Proofs.YtflhjbmoncbomaaGreatDoor
open Go.RowKit

variable {W w w' : World} {A : HA} {c : Cf} {S : HS} {H : Nat → List Nat} {ks : List Int} {n : Nat} {s : LS}
theorem sub_len : ∀ (l1 l2 : List Int), l1.Nodup → (∀ x ∈ l1, x ∈ l2) → l1.length ≤ l2.length
  | [], _, _, _ => Nat.zero_le _
  | x :: t, l2, hn, hs => by
    obtain ⟨h1, h2⟩ := List.nodup_cons.1 hn
    have hx := hs x (List.mem_cons_self ..)
    have := sub_len t (l2.erase x) h2 (fun y hy => (List.mem_erase_of_ne (fun e => by subst e; exact h1 hy)).2 (hs y (List.mem_cons_of_mem _ hy)))
    rw [List.length_erase_of_mem hx] at this
    have hp : 0 < l2.length := List.length_pos_of_mem hx
    simp only [List.length_cons]
    omega
theorem mem_allSl {a : Int} : ∀ m, a ∈ allSl c ks m ↔ ∃ b, b < m ∧ a ∈ slAt c ks b
  | 0 => ⟨fun h => (List.not_mem_nil h).elim, fun ⟨_, h, _⟩ => absurd h (Nat.not_lt_zero _)⟩
  | m + 1 => by
    show a ∈ allSl c ks m ++ slAt c ks m ↔ _
    rw [List.mem_append, mem_allSl m]
    constructor
    · rintro (⟨b, hb, h⟩ | h)
      · exact ⟨b, by omega, h⟩
      · exact ⟨m, by omega, h⟩
    · rintro ⟨b, hb, h⟩
      by_cases e : b = m
      · subst e; exact .inr h
      · exact .inl ⟨b, by omega, h⟩
/-- What a table's blocks are. -/
structure Tb (c : Cf) (ks : List Int) (n : Nat) : Prop where
  ok : c.ok = true
  hn : (n : Int) = c.c0
  le : ks.length ≤ n
  cls : ∀ j, j < ks.length → isCls (ks.getD j 0) = true
theorem HpI.tb (h : HpI W w A c S H) : Tb c S.s.ks A.L.n := by
  obtain ⟨ct, hb⟩ := h.at'.ls.tb
  exact ⟨hb.ok, hb.hn, hb.le, hb.cls⟩
theorem Tb.slAt (h : Tb c ks n) {b : Nat} {a : Int} (ha : a ∈ slAt c ks b) : b < ks.length ∧ ownB c ks a = true ∧ (a - 1) / c.c1 = b := by
  unfold Go.Proofs.YtflhjbmoncbomaaGreatDoor.slAt at ha
  split at ha
  · rename_i hb
    have := h.hn
    have := h.le
    exact ⟨hb, own_of_mem h.ok hb (h.cls b hb) (by omega) ha⟩
  · exact (List.not_mem_nil ha).elim
theorem Tb.mem (h : Tb c ks n) {a : Int} : a ∈ allSl c ks n ↔ ownB c ks a = true := by
  rw [mem_allSl]
  constructor
  · rintro ⟨b, _, hb⟩
    exact (h.slAt hb).2.1
  · intro ho
    obtain ⟨b, h1, h2, h3, h4, h5⟩ := mem_of_own h.ok ho
    refine ⟨b, by have := h.le; omega, ?_⟩
    unfold Go.Proofs.YtflhjbmoncbomaaGreatDoor.slAt
    rw [if_pos h2]
    exact h5
theorem Tb.nodup (h : Tb c ks n) : ∀ m, m ≤ n → (allSl c ks m).Nodup
  | 0, _ => List.nodup_nil
  | m + 1, hm => by
    show (allSl c ks m ++ Go.Proofs.YtflhjbmoncbomaaGreatDoor.slAt c ks m).Nodup
    refine List.nodup_append.2 ⟨h.nodup m (by omega), ?_, fun x hx y hy e => ?_⟩
    · unfold Go.Proofs.YtflhjbmoncbomaaGreatDoor.slAt
      split
      · rename_i hb
        have := h.hn
        exact sl_nodup h.ok (h.cls m hb) (by omega) (by omega)
      · exact List.nodup_nil
    · subst e
      obtain ⟨b, hb, hx⟩ := (mem_allSl m).1 hx
      have h1 := (h.slAt hx).2.2
      have h2 := (h.slAt hy).2.2
      omega
/-- The free slots of the first classes. -/
def frs (H : Nat → List Nat) : Nat → List Int
  | 0 => []
  | k + 1 => frs H k ++ adr (H k)
theorem mem_frs {a : Int} : ∀ m, a ∈ frs H m ↔ ∃ k, k < m ∧ ∃ j ∈ H k, a = (j : Int) + 1
  | 0 => ⟨fun h => (List.not_mem_nil h).elim, fun ⟨_, h, _⟩ => absurd h (Nat.not_lt_zero _)⟩
  | m + 1 => by
    show a ∈ frs H m ++ adr (H m) ↔ _
    rw [List.mem_append, mem_frs m]
    constructor
    · rintro (⟨k, hk, h⟩ | h)
      · exact ⟨k, by omega, h⟩
      · obtain ⟨j, hj, e⟩ := List.mem_map.1 h
        exact ⟨m, by omega, j, hj, e.symm⟩
    · rintro ⟨k, hk, j, hj, e⟩
      by_cases e2 : k = m
      · subst e2; exact .inr (List.mem_map.2 ⟨j, hj, e.symm⟩)
      · exact .inl ⟨k, by omega, j, hj, e⟩
theorem frs_nodup (h : LInv c s H) : ∀ m, m ≤ 4 → (frs H m).Nodup
  | 0, _ => List.nodup_nil
  | m + 1, hm => by
    show (frs H m ++ adr (H m)).Nodup
    refine List.nodup_append.2 ⟨frs_nodup h m (by omega), ?_, fun x hx y hy e => ?_⟩
    · exact List.Pairwise.map _ (fun i j hij e => hij (by omega)) (h.nd m (by omega))
    · subst e
      obtain ⟨k, hk, j, hj, e⟩ := (mem_frs m).1 hx
      obtain ⟨j', hj', e'⟩ := List.mem_map.1 hy
      obtain rfl : j = j' := by omega
      have h1 := (h.cls k (by omega) j hj).2
      have h2 := (h.cls m (by omega) j hj').2
      omega
/-- All that the law sees. -/
def seenL (S : HS) (c : Cf) (H : Nat → List Nat) (n : Nat) : List Int := (S.objs ++ S.hnds c n) ++ frs H 4
theorem mem_objs {a : Int} : a ∈ S.objs ↔ S.obj a = true := by
  unfold HS.objs HS.obj hasB
  rw [List.mem_map]
  constructor
  · rintro ⟨x, hx, rfl⟩
    obtain ⟨h1, h2⟩ := mem_elems.1 hx
    unfold mayB
    rw [decide_eq_true (show (0 : Int) ≤ (x : Int) by omega), decide_eq_true (show (x : Int) < ((S.s.ws.length + 1 : Nat) : Int) by omega), Int.toNat_natCast, h2]
    rfl
  · intro h
    rw [Bool.and_eq_true] at h
    obtain ⟨x, rfl, hx⟩ := may_nat h.1
    have h2 := h.2
    rw [Int.toNat_natCast] at h2
    exact ⟨x, mem_elems.2 ⟨hx, h2⟩, rfl⟩
theorem HpI.seen_mem (h : HpI W w A c S H) {a : Int} : a ∈ seenL S c H A.L.n ↔ ownB c S.s.ks a = true := by
  unfold seenL
  rw [List.mem_append, List.mem_append, mem_objs, mem_frs]
  unfold HS.hnds
  rw [List.mem_filter, h.tb.mem]
  constructor
  · rintro ((ho | ⟨ho, _⟩) | ⟨k, hk, j, hj, rfl⟩)
    · exact (h.own_obj ho).1
    · exact ho
    · exact (h.inv.li.cls k hk j hj).1
  · intro ho
    obtain ⟨j, k, rfl, hj, hk, hc, ho'⟩ := h.inv.slot_of ho
    cases hB : S.B (j + 1)
    · cases hM : S.s.M (j + 1)
      · exact .inl (.inr ⟨ho, h.inv.hand_iff.2 ⟨ho', hM, hB⟩⟩)
      · obtain ⟨k', hk', hm⟩ := (h.inv.li.mem j hj).1 hM
        exact .inr ⟨k', hk', j, hm, rfl⟩
    · left; left
      rw [h.obj_nat hj]
      exact hB
theorem HpI.seen_nodup (h : HpI W w A c S H) : (seenL S c H A.L.n).Nodup := by
  unfold seenL
  refine List.nodup_append.2 ⟨List.nodup_append.2 ⟨?_, ?_, fun x hx y hy e => ?_⟩, frs_nodup h.inv.li 4 (Nat.le_refl _), fun x hx y hy e => ?_⟩
  · exact List.Pairwise.map _ (fun i j hij e => hij (by omega)) (List.Pairwise.filter _ List.nodup_range)
  · exact List.Pairwise.filter _ (h.tb.nodup A.L.n (Nat.le_refl _))
  · subst e
    have h1 := mem_objs.1 hx
    have h2 := (List.mem_filter.1 hy).2
    unfold HS.hand at h2
    rw [h1] at h2
    simp at h2
  · subst e
    obtain ⟨k, hk, j, hj, rfl⟩ := (mem_frs 4).1 hy
    have hjl := (h.inv.li.thr k hk).lt j hj
    have hM := (h.inv.li.mem j hjl).2 ⟨k, hk, hj⟩
    have hf : S.fre ((j : Int) + 1) = true := by rw [h.fre_nat hjl]; exact hM
    rcases List.mem_append.1 hx with hx | hx
    · have h1 := (h.own_fre hf).2
      rw [mem_objs.1 hx] at h1
      cases h1
    · have h2 := (List.mem_filter.1 hx).2
      unfold HS.hand at h2
      rw [hf] at h2
      simp at h2
theorem HpI.seen_len (h : HpI W w A c S H) : (seenL S c H A.L.n).length = (allSl c S.s.ks A.L.n).length := by
  have h1 := sub_len _ _ h.seen_nodup (fun x hx => h.tb.mem.2 (h.seen_mem.1 hx))
  have h2 := sub_len _ _ (h.tb.nodup A.L.n (Nat.le_refl _)) (fun x hx => h.seen_mem.2 (h.tb.mem.1 hx))
  omega
theorem HpI.seen_bd (h : HpI W w A c S H) {a : Int} (ha : a ∈ seenL S c H A.L.n) : 1 ≤ a ∧ a ≤ S.s.ws.length := by
  have := own_bd (h.seen_mem.1 ha)
  have := h.inv.len
  omega
end Go.Proofs.YtflhjbmoncbomaaGreatDoor
