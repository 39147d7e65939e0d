/- The law's Parted, walked. Conditions: the tables of limits, of sizes and of de Bruijn's bits read as laid. -/
import Derived.Test.YtnobempbcdkoaaaGreatDoorHpG
namespace Go.Proofs.YtnobempbcdkoaaaGreatDoor
open Go.RowKit

variable {W w w' : World} {A : HA} {c : Cf} {S : HS} {H : Nat → List Nat}
/-- While the lists are gathered. -/
structure PtI (W w : World) (A : HA) (c : Cf) (S : HS) (H : Nat → List Nat) (B p' g' cap' : Nat) (wr : World) (va vs : Value) (xs ys : List Int) : Prop where
  hp : HpI W wr A c S H
  t : Touch (HT A) w wr
  lo : ∀ b ∈ A.all, b < w.heap.size
  wB : w.heap.size ≤ B
  pl : w.heap.size ≤ p' ∧ p' < B ∧ w.heap.size ≤ g' ∧ g' < B
  bs : B ≤ wr.heap.size
  blk : BlkAt wr p' g' cap' A.L.n c S.s.ks
  oa : Ow wr B va xs
  os : Ow wr B vs ys
  ap : ∀ k, va.ownBlock = some k → vs.ownBlock ≠ some k
variable {B p' g' cap' : Nat} {wr : World} {va vs : Value} {xs ys zs : List Int}
theorem PtI.heap (h : PtI W w A c S H B p' g' cap' wr va vs xs ys) (ht : Touch (HT A) wr w') (hi : HpI W w' A c S H) : PtI W w A c S H B p' g' cap' w' va vs xs ys := by
  have no : ∀ k, w.heap.size ≤ k → ¬ HT A k := fun k hk hm => by have := h.lo k hm; omega
  refine ⟨hi, h.t.trans ht, h.lo, h.wB, h.pl, Nat.le_trans h.bs ht.size, h.blk.touch ht (no _ h.pl.1) (no _ h.pl.2.2.1), h.oa.touch ht (fun g hg => no _ ?_), h.os.touch ht (fun g hg => no _ ?_), h.ap⟩
  · have := h.oa.new g hg; have := h.wB; omega
  · have := h.os.new g hg; have := h.wB; omega
theorem PtI.old (h : PtI W w A c S H B p' g' cap' wr va vs xs ys) (ht : Touch nob wr w') : PtI W w A c S H B p' g' cap' w' va vs xs ys := h.heap ht.hnob (h.hp.old ht)
theorem PtI.grow (h : PtI W w A c S H B p' g' cap' wr va vs xs ys) {T : Nat → Prop} (ht : Touch T wr w') (hT : ∀ k, T k → B ≤ k) : HpI W w' A c S H ∧ Touch (HT A) w w' ∧ B ≤ w'.heap.size ∧ BlkAt w' p' g' cap' A.L.n c S.s.ks := by
  have hb := h.hp.at'.base
  have := h.wB
  refine ⟨h.hp.touch (hb.step ht (fun i hi => .inr ?_)) ht (fun b hb' x => ?_), h.t.step ht (fun i hi => .inr ?_), Nat.le_trans h.bs ht.size, h.blk.touch ht (fun x => ?_) (fun x => ?_)⟩
  · have h1 := hT i hi
    have h2 := h.hp.at'.hi A.h (all_at (A := A) 0)
    have h3 := h.lo A.h (all_at (A := A) 0)
    omega
  · have h1 := hT b x
    have h3 := h.lo b hb'
    omega
  · have h1 := hT i hi
    omega
  · have := hT _ x; have := h.pl; omega
  · have := hT _ x; have := h.pl; omega
theorem PtI.app_a {v3 : Value} {w3 : World} (h : PtI W w A c S H B p' g' cap' wr va vs xs ys) (ho : Ow w3 B v3 (xs ++ zs)) (hg : wr.grownBy w3 va.ownBlock) (hat : v3.ownBlock = va.ownBlock ∨ v3.ownBlock = some wr.heap.size) : PtI W w A c S H B p' g' cap' w3 v3 vs (xs ++ zs) ys := by
  have hT : Touch (fun j => va.ownBlock = some j) wr w3 := Touch.grown (Touch.refl _ _) hg (fun j hj => .inl hj)
  obtain ⟨h1, h2, h3, h4⟩ := h.grow hT (fun k hk => h.oa.new k hk)
  refine ⟨h1, h2, h.lo, h.wB, h.pl, h3, h4, ho, h.os.touch hT (fun g hg e => h.ap g e hg), fun k hk => ?_⟩
  rcases hat with e | e
  · rw [e] at hk; exact h.ap k hk
  · rw [e] at hk
    cases hk
    intro e2
    have := h.os.old _ e2
    omega
theorem PtI.app_s {v3 : Value} {w3 : World} (h : PtI W w A c S H B p' g' cap' wr va vs xs ys) (ho : Ow w3 B v3 (ys ++ zs)) (hg : wr.grownBy w3 vs.ownBlock) (hat : v3.ownBlock = vs.ownBlock ∨ v3.ownBlock = some wr.heap.size) : PtI W w A c S H B p' g' cap' w3 va v3 xs (ys ++ zs) := by
  have hT : Touch (fun j => vs.ownBlock = some j) wr w3 := Touch.grown (Touch.refl _ _) hg (fun j hj => .inl hj)
  obtain ⟨h1, h2, h3, h4⟩ := h.grow hT (fun k hk => h.os.new k hk)
  refine ⟨h1, h2, h.lo, h.wB, h.pl, h3, h4, h.oa.touch hT (fun g hg e => h.ap g hg e), ho, fun k hk e2 => ?_⟩
  rcases hat with e | e
  · rw [e] at e2; exact h.ap k hk e2
  · rw [e] at e2
    cases e2
    have := h.oa.old _ hk
    omega
theorem PtI.mark {q : Nat} (h : PtI W w A c S H B p' g' cap' wr va vs xs ys) (hq : B ≤ q) (ha : ∀ k, va.ownBlock = some k → k ≠ q) (hs : ∀ k, vs.ownBlock = some k → k ≠ q) (i : Nat) (u : Value) : PtI W w A c S H B p' g' cap' (wr.setCell ⟨q, i, none⟩ u) va vs xs ys := by
  have hT : Touch (fun k => k = q) wr (wr.setCell ⟨q, i, none⟩ u) := Touch.setCell (S := fun k => k = q) (Touch.refl _ _) (.inl rfl) _
  obtain ⟨h1, h2, h3, h4⟩ := h.grow hT (fun k hk => by omega)
  exact ⟨h1, h2, h.lo, h.wB, h.pl, h3, h4, h.oa.touch hT (fun g hg e => ha g hg e), h.os.touch hT (fun g hg e => hs g hg e), h.ap⟩
theorem bools_set (M : Nat → Bool) (n y : Nat) (b : Bool) (_ : y < n) : (bools M n).set y (.bool b) = bools (fun x => if x = y then b else M x) n := by
  apply List.ext_getElem
  · simp
  · intro i h1 h2
    simp only [List.length_map, List.length_range] at h2
    rw [List.getElem_set]
    simp only [List.getElem_map, List.getElem_range]
    by_cases e : y = i
    · rw [if_pos e, if_pos e.symm]
    · rw [if_neg e, if_neg (fun x => e x.symm)]
theorem own_at {v : Value} {B : Nat} {Z : List Int} {az : Option Addr} {m cs : Nat} (h : Ow w B v Z) (hv : v = .slice az m cs) (hm : Z.length = m) {j : Nat} (hj : j < m) : ∃ g, az = some ⟨g, 0, none⟩ ∧ m ≤ cs ∧ w.cell? ⟨g, j, none⟩ = some (.int .i64 (Z.getD j 0)) := by
  subst hv
  rcases h.shape with ⟨_, e⟩ | ⟨g, cap, e⟩
  · rw [e] at hm; simp at hm; omega
  · injection e with e1 e2 e3
    subst e1 e3
    obtain ⟨b, o, cap', hv', hc', hcell⟩ := h.ints.at (k := j) (by omega)
    injection hv' with f1 f2 f3
    cases f1
    rw [Nat.zero_add] at hcell
    exact ⟨g, rfl, by omega, hcell⟩
theorem blk_SlotsS {p q cap n : Nat} {ks : List Int} (m : Nat) (h : BlkAt w p q cap n c ks) (hL : Laid w) (hm : m < n) :
    Calls Tryz.prog 173 #[.pointer (some ⟨p, 0, none⟩), .int .i64 m] w fun e w' => ∃ v, e = .returned v ∧ Touch nob w w' ∧ Sx w' v (slAt c ks m) := by
  by_cases hk : m < ks.length
  · refine (blk_Slots m h hL.lim hL.siz).mono ?_
    rintro e w1 ⟨v, rfl, hT, hI, _⟩
    refine ⟨v, rfl, hT, sx_of_ints hI (fun e => ?_)⟩
    unfold slAt at e
    rw [if_pos hk] at e
    have hc := h.ok
    have u := c1_bd hc
    have h1 : (sl c (ks.getD m 0) m).length = 0 := by rw [e]; rfl
    rw [sl_len hc (h.cls m hk) (by omega) (by have := h.hn; omega)] at h1
    obtain ⟨p0, _⟩ := per_facts c.c1 _ (h.cls m hk) u.1 u.2
    omega
  · refine (blk_Slots_no m h (.inr (by omega))).mono ?_
    rintro e w1 ⟨rfl, rfl⟩
    refine ⟨_, rfl, Touch.refl _ _, .inl ⟨rfl, ?_⟩⟩
    unfold slAt
    rw [if_neg hk]
theorem run_cfg_words (c0 c1 c2 c3 c4 c5 c6 : Int) (w : World) : (Instr.field 23 (.agg #[.int .i64 c0, .int .i64 c1, .int .i64 c2, .int .i64 c3, .int .i64 c4, .int .i64 c5, .int .i64 c6]) 1).run Tryz.prog w = .ok (.int .i64 c1) w := by kernel_rfl
end Go.Proofs.YtnobempbcdkoaaaGreatDoor
