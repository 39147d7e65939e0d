/- The document's answers for configs, walked: each returns what the program's own function does. Conditions: none. What is laid: sizes, limits; boxes of configs. Conditions: none. -/
import Derived.Test.YtflhjbmoncbomaaGreatDoorConfig
import Derived.Test.YtflhjbmoncbomaaGreatDoorRound
import Derived.Test.YtflhjbmoncbomaaGreatDoorClass
namespace Go.Proofs.YtflhjbmoncbomaaGreatDoor
open Go.RowKit Go.Sort

def withinI (n lo hi : Int) : Bool := decide (lo ≤ n) && decide (n ≤ hi)
theorem ref02_within (n lo hi : Int) (w : World) :
    Calls Tryz.prog 83 #[.int .i64 n, .int .i64 lo, .int .i64 hi] w fun e w' => e = .returned (.bool (withinI n lo hi)) ∧ w = w' := by
  go_enter Tryz.func83, Tryz.ntmps83
  go_wp2
  · go_ret
    exact ⟨ret_bool (by unfold withinI; simp [*]), rfl⟩
  · go_ret
    exact ⟨ret_bool (by unfold withinI; simp; omega), rfl⟩

theorem within_ok (c0 c1 c2 c3 c4 c5 c6 : Int) : (withinI c0 1 4096 && withinI c1 16 256 && withinI c2 1 8 && withinI c3 1 64 && withinI c4 0 64 && withinI c5 1 256 && withinI c6 1 4096) = cfgOk c0 c1 c2 c3 c4 c5 c6 := by
  rw [Bool.eq_iff_iff, cfgOk_iff]; unfold withinI; simp only [Bool.and_eq_true, decide_eq_true_eq]; omega
set_option maxHeartbeats 2000000 in
theorem ref02_Right (c0 c1 c2 c3 c4 c5 c6 : Int) (w : World) :
    Calls Tryz.prog 35 #[.agg #[.int .i64 c0, .int .i64 c1, .int .i64 c2, .int .i64 c3, .int .i64 c4, .int .i64 c5, .int .i64 c6]] w fun e w' => e = .returned (.bool (cfgOk c0 c1 c2 c3 c4 c5 c6)) ∧ Below w.heap.size w w' := by
  cases h0 : withinI c0 1 4096
  · have HK : Hid (false = cfgOk c0 c1 c2 c3 c4 c5 c6) := by show false = _; rw [← within_ok]; simp [h0]
    go_enter Tryz.func35, Tryz.ntmps35
    go_wp2_with (go_at_call 83; refine (ref02_within _ _ _ _).mono ?_; rintro e w' ⟨rfl, rfl⟩)
    go_ret
    exact ⟨ret_bool HK.out, (Below.refl _ _).alloc (Nat.le_refl _) _⟩
  cases h1 : withinI c1 16 256
  · have HK : Hid (false = cfgOk c0 c1 c2 c3 c4 c5 c6) := by show false = _; rw [← within_ok]; simp [h0, h1]
    go_enter Tryz.func35, Tryz.ntmps35
    go_wp2_with (go_at_call 83; refine (ref02_within _ _ _ _).mono ?_; rintro e w' ⟨rfl, rfl⟩)
    go_ret
    exact ⟨ret_bool HK.out, (Below.refl _ _).alloc (Nat.le_refl _) _⟩
  cases h2 : withinI c2 1 8
  · have HK : Hid (false = cfgOk c0 c1 c2 c3 c4 c5 c6) := by show false = _; rw [← within_ok]; simp [h0, h1, h2]
    go_enter Tryz.func35, Tryz.ntmps35
    go_wp2_with (go_at_call 83; refine (ref02_within _ _ _ _).mono ?_; rintro e w' ⟨rfl, rfl⟩)
    go_ret
    exact ⟨ret_bool HK.out, (Below.refl _ _).alloc (Nat.le_refl _) _⟩
  cases h3 : withinI c3 1 64
  · have HK : Hid (false = cfgOk c0 c1 c2 c3 c4 c5 c6) := by show false = _; rw [← within_ok]; simp [h0, h1, h2, h3]
    go_enter Tryz.func35, Tryz.ntmps35
    go_wp2_with (go_at_call 83; refine (ref02_within _ _ _ _).mono ?_; rintro e w' ⟨rfl, rfl⟩)
    go_ret
    exact ⟨ret_bool HK.out, (Below.refl _ _).alloc (Nat.le_refl _) _⟩
  cases h4 : withinI c4 0 64
  · have HK : Hid (false = cfgOk c0 c1 c2 c3 c4 c5 c6) := by show false = _; rw [← within_ok]; simp [h0, h1, h2, h3, h4]
    go_enter Tryz.func35, Tryz.ntmps35
    go_wp2_with (go_at_call 83; refine (ref02_within _ _ _ _).mono ?_; rintro e w' ⟨rfl, rfl⟩)
    go_ret
    exact ⟨ret_bool HK.out, (Below.refl _ _).alloc (Nat.le_refl _) _⟩
  cases h5 : withinI c5 1 256
  · have HK : Hid (false = cfgOk c0 c1 c2 c3 c4 c5 c6) := by show false = _; rw [← within_ok]; simp [h0, h1, h2, h3, h4, h5]
    go_enter Tryz.func35, Tryz.ntmps35
    go_wp2_with (go_at_call 83; refine (ref02_within _ _ _ _).mono ?_; rintro e w' ⟨rfl, rfl⟩)
    go_ret
    exact ⟨ret_bool HK.out, (Below.refl _ _).alloc (Nat.le_refl _) _⟩
  cases h6 : withinI c6 1 4096
  · have HK : Hid (false = cfgOk c0 c1 c2 c3 c4 c5 c6) := by show false = _; rw [← within_ok]; simp [h0, h1, h2, h3, h4, h5, h6]
    go_enter Tryz.func35, Tryz.ntmps35
    go_wp2_with (go_at_call 83; refine (ref02_within _ _ _ _).mono ?_; rintro e w' ⟨rfl, rfl⟩)
    go_ret
    exact ⟨ret_bool HK.out, (Below.refl _ _).alloc (Nat.le_refl _) _⟩
  have HK : Hid (true = cfgOk c0 c1 c2 c3 c4 c5 c6) := by show true = _; rw [← within_ok]; simp [h0, h1, h2, h3, h4, h5, h6]
  go_enter Tryz.func35, Tryz.ntmps35
  go_wp2_with (go_at_call 83; refine (ref02_within _ _ _ _).mono ?_; rintro e w' ⟨rfl, rfl⟩)
  go_ret
  exact ⟨ret_bool HK.out, (Below.refl _ _).alloc (Nat.le_refl _) _⟩

theorem mul_bd {a b A B : Int} (h0 : 0 ≤ a) (h1 : a ≤ A) (h2 : 0 ≤ b) (h3 : b ≤ B) : 0 ≤ a * b ∧ a * b ≤ A * B :=
  ⟨Int.mul_nonneg h0 h2, Int.le_trans (Int.mul_le_mul_of_nonneg_right h1 h2) (Int.mul_le_mul_of_nonneg_left h3 (by omega))⟩
def cfgWords (c0 c1 : Int) : Int := c0 * c1
def cfgSlots (c0 c1 : Int) : Int := c0 * (c1 / 2)
def cfgOp (c1 c5 : Int) : Int := 64 + 4 * c5 + c1
def cfgAnswer (c3 c5 : Int) : Int := 16 + c3 * (c5 + 8) + 4 * c5
def ifOk (b : Bool) (n : Int) : Int := match b with | true => n | false => 0

set_option maxHeartbeats 1000000 in
theorem config_Words (c0 c1 c2 c3 c4 c5 c6 : Int) (w : World) (hL : Limits w) :
    Calls Tryz.prog 57 #[.agg #[.int .i64 c0, .int .i64 c1, .int .i64 c2, .int .i64 c3, .int .i64 c4, .int .i64 c5, .int .i64 c6]] w fun e w' => e = .returned (.int .i64 (ifOk (cfgOk c0 c1 c2 c3 c4 c5 c6) (cfgWords c0 c1))) ∧ Below w.heap.size w w' := by
  have HL := Lib.hid hL
  have hmf : ∀ (fn : Fn) (first cap : Array Value) (w : World), (Instr.makeFunc fn first cap).run Tryz.prog w = .ok (.func fn first cap) w := fun _ _ _ _ => rfl
  clear hL
  cases hk : cfgOk c0 c1 c2 c3 c4 c5 c6
  · have HK := Lib.hid hk
    clear hk
    go_enter Tryz.func57, Tryz.ntmps57
    go_wp2_with (first | (go_at_call 103; refine (config_Right c0 c1 c2 c3 c4 c5 c6 _ (HL.out.touch (S := nob) (by (repeat (first | with_reducible exact Touch.refl _ _ | with_reducible assumption | with_reducible apply Touch.alloc | with_reducible apply Touch.drewN | with_reducible apply Touch.drew | with_reducible refine Touch.setCell ?_ (.inr (by first | omega | (simp; done) | (simp; omega))) _))) (fun x => x))).mono ?_; rintro e w1 ⟨rfl, hb⟩; rw [HK.out]) | (go_at_call 104; go_in))
    go_ret
    exact ⟨rfl, Touch.below ((Touch.alloc (Touch.alloc (Touch.refl nob w) _) _).trans (Touch.of_below hb))⟩
  · have HK := Lib.hid hk
    obtain ⟨⟨u0, v0⟩, ⟨u1, v1⟩, ⟨u2, v2⟩, ⟨u3, v3⟩, ⟨u4, v4⟩, ⟨u5, v5⟩, u6, v6⟩ := cfgOk_iff.1 hk
    clear hk
    have ⟨m0, m1⟩ := mul_bd (a := c0) (b := c1) (A := 4096) (B := 256) (by omega) (by omega) (by omega) (by omega)
    go_enter Tryz.func57, Tryz.ntmps57
    go_wp2_with (first | (go_at_call 103; refine (config_Right c0 c1 c2 c3 c4 c5 c6 _ (HL.out.touch (S := nob) (by (repeat (first | with_reducible exact Touch.refl _ _ | with_reducible assumption | with_reducible apply Touch.alloc | with_reducible apply Touch.drewN | with_reducible apply Touch.drew | with_reducible refine Touch.setCell ?_ (.inr (by first | omega | (simp; done) | (simp; omega))) _))) (fun x => x))).mono ?_; rintro e w1 ⟨rfl, hb⟩; rw [HK.out]; obtain ⟨hc, hf⟩ := bcell hb) | (go_at_call 104; go_in) | (go_at_call 105; go_in))
    go_ret
    exact ⟨rfl, Touch.below ((Touch.alloc (Touch.alloc (Touch.refl nob w) _) _).trans (Touch.of_below hb))⟩

end Go.Proofs.YtflhjbmoncbomaaGreatDoor
namespace Go.Proofs.YtflhjbmoncbomaaGreatDoor
open Go.RowKit

theorem gSizes : Tryz.prog.globalNamed "dustpan/class.sizes" = some 1 := by kernel_rfl
theorem tSizes : (Tryz.prog.globals[1]?).map (·.type) = some 139 := by kernel_rfl
theorem sizes_of_cells {w : World} (h : ∀ i, w.cell? ⟨1, i, none⟩ = [Value.int .i64 2, .int .i64 4, .int .i64 8, .int .i64 16][i]?) : Sizes w := ⟨h 0, h 1, h 2, h 3⟩

theorem per_facts (x k : Int) (hk : isCls k = true) (h : 16 ≤ x) (h' : x ≤ 256) :
    1 ≤ perBlock x k ∧ perBlock x k ≤ 128 ∧ perBlock x k * clsSize k ≤ x ∧ x < (perBlock x k + 1) * clsSize k := by
  have hs := clsSize_lo hk
  have hs' := (clsSize_bd k).2
  obtain ⟨p0, p1, p2, p3⟩ := per_bd x (clsSize k) h h' hs hs'
  have hpb : perBlock x k = x / clsSize k := by unfold perBlock; rw [hk, show wordsOk x = true by unfold wordsOk; simp; omega]; rfl
  rw [← hpb] at p0 p1 p2 p3
  rw [Int.mul_comm] at p2 p3
  refine ⟨?_, p1, p2, by rw [Int.add_mul]; omega⟩
  rcases (show perBlock x k < 1 ∨ 1 ≤ perBlock x k by omega) with h | h
  · have : perBlock x k = 0 := by omega
    rw [this] at p3; omega
  · exact h

/-- A config's box: seven cells. -/
abbrev CfgRow (c0 c1 c2 c3 c4 c5 c6 : Int) : Array Value := #[.int .i64 c0, .int .i64 c1, .int .i64 c2, .int .i64 c3, .int .i64 c4, .int .i64 c5, .int .i64 c6]
theorem cfg_box {W : World} {b : Nat} {t : TypeId} {c0 c1 c2 c3 c4 c5 c6 : Int} (h : W.heap[b]? = some (Obj.cells (CfgRow c0 c1 c2 c3 c4 c5 c6) t)) {w' : World} (ht : Touch nob W w') :
    w'.cell? ⟨b, 0, none⟩ = some (.int .i64 c0) ∧ w'.cell? ⟨b, 1, none⟩ = some (.int .i64 c1) ∧ w'.cell? ⟨b, 2, none⟩ = some (.int .i64 c2) ∧ w'.cell? ⟨b, 3, none⟩ = some (.int .i64 c3) ∧ w'.cell? ⟨b, 4, none⟩ = some (.int .i64 c4) ∧ w'.cell? ⟨b, 5, none⟩ = some (.int .i64 c5) ∧ w'.cell? ⟨b, 6, none⟩ = some (.int .i64 c6) := by
  have hb := (Array.getElem?_eq_some_iff.1 h).1
  have e := (ht.block b hb (fun x => x)).trans h
  simp [World.cell?, e]

end Go.Proofs.YtflhjbmoncbomaaGreatDoor
