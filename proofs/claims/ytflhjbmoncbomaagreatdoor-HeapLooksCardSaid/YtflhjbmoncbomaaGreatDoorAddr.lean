/- The addr functions, walked. Conditions: the tables of limits and of sizes read as laid. -/
import Derived.Test.YtflhjbmoncbomaaGreatDoorRef02
import Derived.BigQuiet
namespace Go.Proofs.YtflhjbmoncbomaaGreatDoor
open Go.RowKit Go.Sort

abbrev CfgV (c0 c1 c2 c3 c4 c5 c6 : Int) : Value := .agg (CfgRow c0 c1 c2 c3 c4 c5 c6)
abbrev PlV (b s x : Int) : Value := .agg #[.int .i64 b, .int .i64 s, .int .i64 x]

theorem Sizes.touch {S : Nat → Prop} {w w' : World} (h : Sizes w) (ht : Touch S w w') (hs : ¬ S 1) : Sizes w' := by
  have hg : 1 < w.heap.size := by
    obtain ⟨o, ho, _⟩ := cells_of_cell h.1
    exact (Array.getElem?_eq_some_iff.1 ho).1
  exact ⟨(ht.cell hg hs).trans h.1, (ht.cell hg hs).trans h.2.1, (ht.cell hg hs).trans h.2.2.1, (ht.cell hg hs).trans h.2.2.2⟩

def blkOk (c0 c1 c2 c3 c4 c5 c6 a : Int) : Bool := cfgOk c0 c1 c2 c3 c4 c5 c6 && (decide (1 ≤ a) && decide (a ≤ c0 * c1))
theorem blkOk_iff {c0 c1 c2 c3 c4 c5 c6 a : Int} : blkOk c0 c1 c2 c3 c4 c5 c6 a = true ↔ cfgOk c0 c1 c2 c3 c4 c5 c6 = true ∧ 1 ≤ a ∧ a ≤ c0 * c1 := by unfold blkOk; simp
def ifB (b : Bool) (n : Int) : Int := match b with | true => n | false => 0

set_option maxHeartbeats 2000000 in
theorem addr_Block (c0 c1 c2 c3 c4 c5 c6 a : Int) (w : World) (hL : Limits w) :
    Calls Tryz.prog 145 #[CfgV c0 c1 c2 c3 c4 c5 c6, .int .i64 a] w fun e w' => e = .returned (.tuple #[.int .i64 (ifB (blkOk c0 c1 c2 c3 c4 c5 c6 a) ((a - 1) / c1)), .bool (blkOk c0 c1 c2 c3 c4 c5 c6 a)]) ∧ Below w.heap.size w w' := by
  have HL := Lib.hid hL
  clear hL
  cases hk : blkOk c0 c1 c2 c3 c4 c5 c6 a
  · cases hc : cfgOk c0 c1 c2 c3 c4 c5 c6
    · have HC := Lib.hid hc
      clear hc hk
      go_enter Tryz.func145, Tryz.ntmps145
      go_wp2_with (go_at_call 57; refine (config_Words c0 c1 c2 c3 c4 c5 c6 _ (HL.out.touch (S := nob) (by (repeat (first | with_reducible exact Touch.refl _ _ | with_reducible assumption | with_reducible apply Touch.alloc | with_reducible apply Touch.drewN | with_reducible apply Touch.drew | with_reducible refine Touch.setCell ?_ (.inr (by first | omega | (simp; done) | (simp; omega))) _))) (fun x => x))).mono ?_; rintro e w1 ⟨rfl, hb⟩; rw [HC.out]; simp only [ifOk]; obtain ⟨hcc, hff⟩ := bcell hb)
      · go_ret2
        exact ⟨rfl, Touch.below (Touch.trans (by (repeat (first | with_reducible exact Touch.refl _ _ | with_reducible assumption | with_reducible apply Touch.alloc | with_reducible apply Touch.drewN | with_reducible apply Touch.drew | with_reducible refine Touch.setCell ?_ (.inr (by first | omega | (simp; done) | (simp; omega))) _))) (Touch.of_below hb))⟩
      · go_ret2
        exact ⟨rfl, by apply Touch.below; (repeat (first | with_reducible exact Touch.refl _ _ | with_reducible assumption | with_reducible apply Touch.alloc | with_reducible apply Touch.drewN | with_reducible apply Touch.drew | with_reducible refine Touch.setCell ?_ (.inr (by first | omega | (simp; done) | (simp; omega))) _))⟩
    · have HC := Lib.hid hc
      by_cases h1 : a < 1
      · clear hc hk
        go_enter Tryz.func145, Tryz.ntmps145
        go_wp2_with fail
        go_ret2
        exact ⟨rfl, by apply Touch.below; (repeat (first | with_reducible exact Touch.refl _ _ | with_reducible assumption | with_reducible apply Touch.alloc | with_reducible apply Touch.drewN | with_reducible apply Touch.drew | with_reducible refine Touch.setCell ?_ (.inr (by first | omega | (simp; done) | (simp; omega))) _))⟩
      · have h2 : c0 * c1 < a := by unfold blkOk at hk; rw [hc] at hk; simp at hk; omega
        clear hc hk
        go_enter Tryz.func145, Tryz.ntmps145
        go_wp2_with (go_at_call 57; refine (config_Words c0 c1 c2 c3 c4 c5 c6 _ (HL.out.touch (S := nob) (by (repeat (first | with_reducible exact Touch.refl _ _ | with_reducible assumption | with_reducible apply Touch.alloc | with_reducible apply Touch.drewN | with_reducible apply Touch.drew | with_reducible refine Touch.setCell ?_ (.inr (by first | omega | (simp; done) | (simp; omega))) _))) (fun x => x))).mono ?_; rintro e w1 ⟨rfl, hb⟩; rw [HC.out]; simp only [ifOk, cfgWords]; obtain ⟨hcc, hff⟩ := bcell hb)
        go_ret2
        exact ⟨rfl, Touch.below (Touch.trans (by (repeat (first | with_reducible exact Touch.refl _ _ | with_reducible assumption | with_reducible apply Touch.alloc | with_reducible apply Touch.drewN | with_reducible apply Touch.drew | with_reducible refine Touch.setCell ?_ (.inr (by first | omega | (simp; done) | (simp; omega))) _))) (Touch.of_below hb))⟩
  · obtain ⟨hc, h1, h2⟩ := blkOk_iff.1 hk
    have HC := Lib.hid hc
    obtain ⟨⟨u0, v0⟩, ⟨u1, v1⟩, _⟩ := cfgOk_iff.1 hc
    have ⟨m0, m1⟩ := mul_bd (a := c0) (b := c1) (A := 4096) (B := 256) (by omega) (by omega) (by omega) (by omega)
    clear hc hk
    have hq : Int.tdiv (a - 1) c1 = (a - 1) / c1 := Int.tdiv_eq_ediv_of_nonneg (by omega)
    have q0 : 0 ≤ (a - 1) / c1 := Int.ediv_nonneg (by omega) (by omega)
    have q1 : (a - 1) / c1 ≤ a - 1 := Int.ediv_le_self _ (by omega)
    go_enter Tryz.func145, Tryz.ntmps145
    go_wp2_with (go_at_call 57; refine (config_Words c0 c1 c2 c3 c4 c5 c6 _ (HL.out.touch (S := nob) (by (repeat (first | with_reducible exact Touch.refl _ _ | with_reducible assumption | with_reducible apply Touch.alloc | with_reducible apply Touch.drewN | with_reducible apply Touch.drew | with_reducible refine Touch.setCell ?_ (.inr (by first | omega | (simp; done) | (simp; omega))) _))) (fun x => x))).mono ?_; rintro e w1 ⟨rfl, hb⟩; rw [HC.out]; simp only [ifOk, cfgWords]; obtain ⟨hcc, hff⟩ := bcell hb)
    go_ret2
    exact ⟨rfl, Touch.below (Touch.trans (by (repeat (first | with_reducible exact Touch.refl _ _ | with_reducible assumption | with_reducible apply Touch.alloc | with_reducible apply Touch.drewN | with_reducible apply Touch.drew | with_reducible refine Touch.setCell ?_ (.inr (by first | omega | (simp; done) | (simp; omega))) _))) (Touch.of_below hb))⟩

def plOk (c0 c1 c2 c3 c4 c5 c6 k b s x : Int) : Bool := cfgOk c0 c1 c2 c3 c4 c5 c6 && isCls k && (decide (0 ≤ b) && decide (b < c0)) && (decide (0 ≤ s) && decide (s < perBlock c1 k)) && (decide (0 ≤ x) && decide (x < clsSize k))
def plA (c1 k b s x : Int) : Int := 1 + b * c1 + s * clsSize k + x
theorem plOk_iff {c0 c1 c2 c3 c4 c5 c6 k b s x : Int} : plOk c0 c1 c2 c3 c4 c5 c6 k b s x = true ↔ cfgOk c0 c1 c2 c3 c4 c5 c6 = true ∧ isCls k = true ∧ (0 ≤ b ∧ b < c0) ∧ (0 ≤ s ∧ s < perBlock c1 k) ∧ 0 ≤ x ∧ x < clsSize k := by
  unfold plOk; simp only [Bool.and_eq_true, decide_eq_true_eq]
  constructor
  · rintro ⟨⟨⟨⟨a, b⟩, c⟩, d⟩, e⟩; exact ⟨a, b, c, d, e⟩
  · rintro ⟨a, b, c, d, e⟩; exact ⟨⟨⟨⟨a, b⟩, c⟩, d⟩, e⟩

/-- Where a place is, if there is one: bounds. -/
theorem pl_bd {c0 c1 c2 c3 c4 c5 c6 k b s x : Int} (h : plOk c0 c1 c2 c3 c4 c5 c6 k b s x = true) : (0 ≤ b * c1 ∧ b * c1 + c1 ≤ c0 * c1) ∧ (0 ≤ s * clsSize k ∧ s * clsSize k + clsSize k ≤ c1) ∧ c0 * c1 ≤ 1048576 := by
  obtain ⟨hc, hk, ⟨b0, b1⟩, ⟨s0, s1⟩, x0, x1⟩ := plOk_iff.1 h
  obtain ⟨⟨u0, v0⟩, ⟨u1, v1⟩, _⟩ := cfgOk_iff.1 hc
  obtain ⟨p0, p1, p2, p3⟩ := per_facts c1 k hk u1 v1
  have q0 := clsSize_lo hk
  have ⟨m0, m1⟩ := mul_bd (a := c0) (b := c1) (A := 4096) (B := 256) (by omega) (by omega) (by omega) (by omega)
  have e1 : (b + 1) * c1 ≤ c0 * c1 := Int.mul_le_mul_of_nonneg_right (by omega) (by omega)
  have e2 : (s + 1) * clsSize k ≤ perBlock c1 k * clsSize k := Int.mul_le_mul_of_nonneg_right (by omega) (by omega)
  rw [Int.add_mul, Int.one_mul] at e1 e2
  exact ⟨⟨Int.mul_nonneg b0 (by omega), e1⟩, ⟨Int.mul_nonneg s0 (by omega), by omega⟩, m1⟩

set_option maxHeartbeats 4000000 in
theorem addr_Of (c0 c1 c2 c3 c4 c5 c6 k b s x : Int) (w : World) (hL : Limits w) (hS : Sizes w) :
    Calls Tryz.prog 153 #[CfgV c0 c1 c2 c3 c4 c5 c6, .int .i64 k, PlV b s x] w fun e w' => e = .returned (.tuple #[.int .i64 (ifB (plOk c0 c1 c2 c3 c4 c5 c6 k b s x) (plA c1 k b s x)), .bool (plOk c0 c1 c2 c3 c4 c5 c6 k b s x)]) ∧ Below w.heap.size w w' := by
  have HL := Lib.hid hL
  have HZ := Lib.hid hS
  clear hL hS
  cases hk : plOk c0 c1 c2 c3 c4 c5 c6 k b s x
  · cases hc : cfgOk c0 c1 c2 c3 c4 c5 c6
    · have HC := Lib.hid hc
      clear hc hk
      go_enter Tryz.func153, Tryz.ntmps153
      go_wp2_with (go_at_call 103; refine (config_Right c0 c1 c2 c3 c4 c5 c6 _ (HL.out.touch (S := nob) (by (repeat (first | with_reducible exact Touch.refl _ _ | with_reducible assumption | with_reducible apply Touch.alloc | with_reducible apply Touch.drewN | with_reducible apply Touch.drew | with_reducible refine Touch.setCell ?_ (.inr (by first | omega | (simp; done) | (simp; omega))) _))) (fun x => x))).mono ?_; rintro e w1 ⟨rfl, hb⟩; rw [HC.out]; obtain ⟨hcc, hff⟩ := bcell hb)
      go_ret2
      exact ⟨rfl, Touch.below (Touch.trans (by (repeat (first | with_reducible exact Touch.refl _ _ | with_reducible assumption | with_reducible apply Touch.alloc | with_reducible apply Touch.drewN | with_reducible apply Touch.drew | with_reducible refine Touch.setCell ?_ (.inr (by first | omega | (simp; done) | (simp; omega))) _))) (Touch.of_below hb))⟩
    cases hi : isCls k
    · have HC := Lib.hid hc
      have HI := Lib.hid hi
      clear hc hk hi
      go_enter Tryz.func153, Tryz.ntmps153
      go_wp2_with (first | (go_at_call 103; refine (config_Right c0 c1 c2 c3 c4 c5 c6 _ (HL.out.touch (S := nob) (by (repeat (first | with_reducible exact Touch.refl _ _ | with_reducible assumption | with_reducible apply Touch.alloc | with_reducible apply Touch.drewN | with_reducible apply Touch.drew | with_reducible refine Touch.setCell ?_ (.inr (by first | omega | (simp; done) | (simp; omega))) _))) (fun x => x))).mono ?_; rintro e w1 ⟨rfl, hb⟩; rw [HC.out]; obtain ⟨hcc, hff⟩ := bcell hb) | (go_at_call 118; refine (class_Is _ _).mono ?_; rintro e w' ⟨rfl, rfl⟩; rw [HI.out]))
      go_ret2
      exact ⟨rfl, Touch.below (Touch.trans (by (repeat (first | with_reducible exact Touch.refl _ _ | with_reducible assumption | with_reducible apply Touch.alloc | with_reducible apply Touch.drewN | with_reducible apply Touch.drew | with_reducible refine Touch.setCell ?_ (.inr (by first | omega | (simp; done) | (simp; omega))) _))) (Touch.of_below hb))⟩
    have HC := Lib.hid hc
    have HI := Lib.hid hi
    rcases (show b < 0 ∨ (0 ≤ b ∧ c0 ≤ b) ∨ (0 ≤ b ∧ b < c0 ∧ s < 0) ∨ (0 ≤ b ∧ b < c0 ∧ 0 ≤ s ∧ perBlock c1 k ≤ s) ∨ (0 ≤ b ∧ b < c0 ∧ 0 ≤ s ∧ s < perBlock c1 k ∧ x < 0) ∨ (0 ≤ b ∧ b < c0 ∧ 0 ≤ s ∧ s < perBlock c1 k ∧ 0 ≤ x ∧ clsSize k ≤ x) by
      have hx : ¬ ((0 ≤ b ∧ b < c0) ∧ (0 ≤ s ∧ s < perBlock c1 k) ∧ 0 ≤ x ∧ x < clsSize k) := fun h => by
        have := plOk_iff.2 ⟨hc, hi, h⟩
        rw [hk] at this; exact absurd this (by decide)
      omega) with h1 | ⟨h1, h2⟩ | ⟨h1, h2, h3⟩ | ⟨h1, h2, h3, h4⟩ | ⟨h1, h2, h3, h4, h5⟩ | ⟨h1, h2, h3, h4, h5, h6⟩
    all_goals
      clear hc hk hi
      go_enter Tryz.func153, Tryz.ntmps153
      go_wp2_with (first | (go_at_call 103; refine (config_Right c0 c1 c2 c3 c4 c5 c6 _ (HL.out.touch (S := nob) (by (repeat (first | with_reducible exact Touch.refl _ _ | with_reducible assumption | with_reducible apply Touch.alloc | with_reducible apply Touch.drewN | with_reducible apply Touch.drew | with_reducible refine Touch.setCell ?_ (.inr (by first | omega | (simp; done) | (simp; omega))) _))) (fun x => x))).mono ?_; rintro e w1 ⟨rfl, hb⟩; rw [HC.out]; obtain ⟨hcc, hff⟩ := bcell hb) | (go_at_call 118; refine (class_Is _ _).mono ?_; rintro e w2 ⟨rfl, rfl⟩; rw [HI.out]))
    · go_ret2
      exact ⟨rfl, Touch.below (Touch.trans (by (repeat (first | with_reducible exact Touch.refl _ _ | with_reducible assumption | with_reducible apply Touch.alloc | with_reducible apply Touch.drewN | with_reducible apply Touch.drew | with_reducible refine Touch.setCell ?_ (.inr (by first | omega | (simp; done) | (simp; omega))) _))) (Touch.of_below hb))⟩
    · go_ret2
      exact ⟨rfl, Touch.below (Touch.trans (by (repeat (first | with_reducible exact Touch.refl _ _ | with_reducible assumption | with_reducible apply Touch.alloc | with_reducible apply Touch.drewN | with_reducible apply Touch.drew | with_reducible refine Touch.setCell ?_ (.inr (by first | omega | (simp; done) | (simp; omega))) _))) (Touch.of_below hb))⟩
    all_goals
      have HS1 : Hid (∀ n, Sizes (w1.drewN n)) := fun n => HZ.out.touch (S := nob) ((Touch.trans (by (repeat (first | with_reducible exact Touch.refl _ _ | with_reducible assumption | with_reducible apply Touch.alloc | with_reducible apply Touch.drewN | with_reducible apply Touch.drew | with_reducible refine Touch.setCell ?_ (.inr (by first | omega | (simp; done) | (simp; omega))) _))) (Touch.of_below hb)).drewN n) (fun h => h)
      go_quiet (first | (go_at_call 152; exact Calls.quiet_of_same ((class_PerBlock _ _ _ (HS1.out _)).mono fun _ _ h => ⟨h.1, h.2.symm⟩)) | (go_at_call 143; exact Calls.quiet_of_same ((class_Size _ _ (HS1.out _)).mono fun _ _ h => ⟨h.1, h.2.symm⟩)))
      go_wp2
      try (
        obtain ⟨w2, hw2⟩ : ∃ z, z = w1.drewN nq := ⟨_, rfl⟩
        have ht2 : Touch nob w1 w2 := by rw [hw2]; exact (Touch.refl _ _).drewN _
        have hcc2 : ∀ b o, w2.cell? ⟨b, o, none⟩ = w1.cell? ⟨b, o, none⟩ := by rw [hw2]; exact fun _ _ => rfl
        rw [← hw2]
        have HS2 : Hid (∀ n, Sizes (w2.drewN n)) := fun n => (HS1.out 0).touch (S := nob) (ht2.drewN n) (fun h => h)
        clear hw2
        go_quiet (first | (go_at_call 152; exact Calls.quiet_of_same ((class_PerBlock _ _ _ (HS2.out _)).mono fun _ _ h => ⟨h.1, h.2.symm⟩)) | (go_at_call 143; exact Calls.quiet_of_same ((class_Size _ _ (HS2.out _)).mono fun _ _ h => ⟨h.1, h.2.symm⟩)))
        go_wp2)
      go_ret2
      exact ⟨rfl, Touch.below (Touch.trans (Touch.trans (by (repeat (first | with_reducible exact Touch.refl _ _ | with_reducible assumption | with_reducible apply Touch.alloc | with_reducible apply Touch.drewN | with_reducible apply Touch.drew | with_reducible refine Touch.setCell ?_ (.inr (by first | omega | (simp; done) | (simp; omega))) _))) (Touch.of_below hb)) (by (repeat (first | with_reducible exact Touch.refl _ _ | with_reducible assumption | with_reducible apply Touch.alloc | with_reducible apply Touch.drewN | with_reducible apply Touch.drew | with_reducible refine Touch.setCell ?_ (.inr (by first | omega | (simp; done) | (simp; omega))) _))))⟩
  · obtain ⟨hc, hi, ⟨b0, b1⟩, ⟨s0, s1⟩, x0, x1⟩ := plOk_iff.1 hk
    have HC := Lib.hid hc
    have HI := Lib.hid hi
    obtain ⟨⟨m0, m1⟩, ⟨m2, m3⟩, m4⟩ := pl_bd hk
    obtain ⟨⟨u0, v0⟩, ⟨u1, v1⟩, _⟩ := cfgOk_iff.1 hc
    have q1 := (clsSize_bd k).2
    clear hc hi hk
    go_enter Tryz.func153, Tryz.ntmps153
    go_wp2_with (first | (go_at_call 103; refine (config_Right c0 c1 c2 c3 c4 c5 c6 _ (HL.out.touch (S := nob) (by (repeat (first | with_reducible exact Touch.refl _ _ | with_reducible assumption | with_reducible apply Touch.alloc | with_reducible apply Touch.drewN | with_reducible apply Touch.drew | with_reducible refine Touch.setCell ?_ (.inr (by first | omega | (simp; done) | (simp; omega))) _))) (fun x => x))).mono ?_; rintro e w1 ⟨rfl, hb⟩; rw [HC.out]; obtain ⟨hcc, hff⟩ := bcell hb) | (go_at_call 118; refine (class_Is _ _).mono ?_; rintro e w2 ⟨rfl, rfl⟩; rw [HI.out]))
    have HS1 : Hid (∀ n, Sizes (w1.drewN n)) := fun n => HZ.out.touch (S := nob) ((Touch.trans (by (repeat (first | with_reducible exact Touch.refl _ _ | with_reducible assumption | with_reducible apply Touch.alloc | with_reducible apply Touch.drewN | with_reducible apply Touch.drew | with_reducible refine Touch.setCell ?_ (.inr (by first | omega | (simp; done) | (simp; omega))) _))) (Touch.of_below hb)).drewN n) (fun h => h)
    go_quiet (first | (go_at_call 152; exact Calls.quiet_of_same ((class_PerBlock _ _ _ (HS1.out _)).mono fun _ _ h => ⟨h.1, h.2.symm⟩)) | (go_at_call 143; exact Calls.quiet_of_same ((class_Size _ _ (HS1.out _)).mono fun _ _ h => ⟨h.1, h.2.symm⟩)))
    go_wp2
    obtain ⟨w2, hw2⟩ : ∃ z, z = w1.drewN nq := ⟨_, rfl⟩
    have ht2 : Touch nob w1 w2 := by rw [hw2]; exact (Touch.refl _ _).drewN _
    have hcc2 : ∀ b o, w2.cell? ⟨b, o, none⟩ = w1.cell? ⟨b, o, none⟩ := by rw [hw2]; exact fun _ _ => rfl
    rw [← hw2]
    have HS2 : Hid (∀ n, Sizes (w2.drewN n)) := fun n => (HS1.out 0).touch (S := nob) (ht2.drewN n) (fun h => h)
    clear hw2
    go_quiet (first | (go_at_call 152; exact Calls.quiet_of_same ((class_PerBlock _ _ _ (HS2.out _)).mono fun _ _ h => ⟨h.1, h.2.symm⟩)) | (go_at_call 143; exact Calls.quiet_of_same ((class_Size _ _ (HS2.out _)).mono fun _ _ h => ⟨h.1, h.2.symm⟩)))
    go_wp2
    obtain ⟨w3, hw3⟩ : ∃ z, z = w2.drewN nq := ⟨_, rfl⟩
    have ht3 : Touch nob w2 w3 := by rw [hw3]; exact (Touch.refl _ _).drewN _
    have hcc3 : ∀ b o, w3.cell? ⟨b, o, none⟩ = w2.cell? ⟨b, o, none⟩ := by rw [hw3]; exact fun _ _ => rfl
    rw [← hw3]
    have HS3 : Hid (∀ n, Sizes (w3.drewN n)) := fun n => (HS2.out 0).touch (S := nob) (ht3.drewN n) (fun h => h)
    clear hw3
    go_quiet (first | (go_at_call 152; exact Calls.quiet_of_same ((class_PerBlock _ _ _ (HS3.out _)).mono fun _ _ h => ⟨h.1, h.2.symm⟩)) | (go_at_call 143; exact Calls.quiet_of_same ((class_Size _ _ (HS3.out _)).mono fun _ _ h => ⟨h.1, h.2.symm⟩)))
    go_wp2
    go_ret2
    exact ⟨rfl, Touch.below ((((Touch.trans (by (repeat (first | with_reducible exact Touch.refl _ _ | with_reducible assumption | with_reducible apply Touch.alloc | with_reducible apply Touch.drewN | with_reducible apply Touch.drew | with_reducible refine Touch.setCell ?_ (.inr (by first | omega | (simp; done) | (simp; omega))) _))) (Touch.of_below hb)).trans ht2).trans ht3).drewN nq)⟩
end Go.Proofs.YtflhjbmoncbomaaGreatDoor
