/- The document's answers for configs, walked: each returns what the program's own function does. Conditions: none. -/
import Derived.Test.YtmonmiadcmffgaaDoorConfig
import Derived.Test.YtmonmiadcmffgaaDoorTail
namespace Go.Proofs.YtmonmiadcmffgaaDoor
open Go.RowKit Go.Sort

theorem ref02_near (n lo hi : Int) (h : lo ≤ hi) (w : World) :
    Calls Tryd.prog 60 #[.int .i64 n, .int .i64 lo, .int .i64 hi] w fun e w' => e = .returned (.int .i64 (clampI lo hi n)) ∧ w = w' := by
  have HC : Hid (clampI lo hi n = max lo (min hi n)) := rfl
  by_cases h1 : n < lo
  · go_enter Tryd.func60, Tryd.ntmps60
    go_wp2_with fail
    go_ret
    exact ⟨ret_int (by rw [HC.out]; omega), rfl⟩
  · by_cases h2 : hi < n
    · go_enter Tryd.func60, Tryd.ntmps60
      go_wp2_with fail
      go_ret
      exact ⟨ret_int (by rw [HC.out]; omega), rfl⟩
    · go_enter Tryd.func60, Tryd.ntmps60
      go_wp2_with fail
      go_ret
      exact ⟨ret_int (by rw [HC.out]; omega), rfl⟩

def withinI (n lo hi : Int) : Bool := decide (lo ≤ n) && decide (n ≤ hi)
theorem ref02_within (n lo hi : Int) (w : World) :
    Calls Tryd.prog 58 #[.int .i64 n, .int .i64 lo, .int .i64 hi] w fun e w' => e = .returned (.bool (withinI n lo hi)) ∧ w = w' := by
  go_enter Tryd.func58, Tryd.ntmps58
  go_wp2
  · go_ret
    exact ⟨ret_bool (by unfold withinI; simp [*]), rfl⟩
  · go_ret
    exact ⟨ret_bool (by unfold withinI; simp; omega), rfl⟩

set_option maxHeartbeats 2000000 in
theorem ref02_Clamp (c0 c1 c2 c3 c4 c5 c6 : Int) (w : World) :
    Calls Tryd.prog 28 #[.agg #[.int .i64 c0, .int .i64 c1, .int .i64 c2, .int .i64 c3, .int .i64 c4, .int .i64 c5, .int .i64 c6]] w fun e w' =>
      e = .returned (.agg #[.int .i64 (clampI 1 4096 c0), .int .i64 (clampI 16 256 c1), .int .i64 (clampI 1 8 c2), .int .i64 (clampI 1 64 c3), .int .i64 (clampI 0 64 c4), .int .i64 (clampI 1 256 c5), .int .i64 (clampI 1 4096 c6)]) ∧ Below w.heap.size w w' := by
  go_enter Tryd.func28, Tryd.ntmps28
  go_wp2
  refine wp_region_quiet_tail_drew 22 (by kernel_rfl) (by kernel_rfl) ?_
  simp only [List.take_succ_cons, List.take_zero, List.drop_succ_cons, List.drop_zero]
  repeat (go_big_quiet_step (((go_at_call 60; exact Calls.quiet_of_same ((ref02_near _ _ _ (by omega) _).mono fun _ _ h => ⟨h.1, h.2.symm⟩)))))
  refine wpQuiet_nil ?_; intro _ hw'; obtain ⟨nq, hw''⟩ := hw'; subst hw''
  go_wp2
  refine bodyPost_ret (v := .agg #[.int .i64 (clampI 1 4096 c0), .int .i64 (clampI 16 256 c1), .int .i64 (clampI 1 8 c2), .int .i64 (clampI 1 64 c3), .int .i64 (clampI 0 64 c4), .int .i64 (clampI 1 256 c5), .int .i64 (clampI 1 4096 c6)]) (by simp [results, Tryd.results28, go_sem]) rfl ⟨rfl, ?_⟩
  refine Touch.below ?_
  repeat (first | with_reducible exact Touch.refl _ _ | with_reducible assumption | with_reducible apply Touch.alloc | with_reducible apply Touch.drewN | with_reducible apply Touch.drew | with_reducible refine Touch.setCell ?_ (.inr (by first | omega | (simp; done) | (simp; omega))) _)

theorem within_ok (c0 c1 c2 c3 c4 c5 c6 : Int) : (withinI c0 1 4096 && withinI c1 16 256 && withinI c2 1 8 && withinI c3 1 64 && withinI c4 0 64 && withinI c5 1 256 && withinI c6 1 4096) = cfgOk c0 c1 c2 c3 c4 c5 c6 := by
  rw [Bool.eq_iff_iff, cfgOk_iff]; unfold withinI; simp only [Bool.and_eq_true, decide_eq_true_eq]; omega
set_option maxHeartbeats 2000000 in
theorem ref02_Right (c0 c1 c2 c3 c4 c5 c6 : Int) (w : World) :
    Calls Tryd.prog 26 #[.agg #[.int .i64 c0, .int .i64 c1, .int .i64 c2, .int .i64 c3, .int .i64 c4, .int .i64 c5, .int .i64 c6]] w fun e w' => e = .returned (.bool (cfgOk c0 c1 c2 c3 c4 c5 c6)) ∧ Below w.heap.size w w' := by
  cases h0 : withinI c0 1 4096
  · have HK : Hid (false = cfgOk c0 c1 c2 c3 c4 c5 c6) := by show false = _; rw [← within_ok]; simp [h0]
    go_enter Tryd.func26, Tryd.ntmps26
    go_wp2_with (go_at_call 58; refine (ref02_within _ _ _ _).mono ?_; rintro e w' ⟨rfl, rfl⟩)
    go_ret
    exact ⟨ret_bool HK.out, (Below.refl _ _).alloc (Nat.le_refl _) _⟩
  cases h1 : withinI c1 16 256
  · have HK : Hid (false = cfgOk c0 c1 c2 c3 c4 c5 c6) := by show false = _; rw [← within_ok]; simp [h0, h1]
    go_enter Tryd.func26, Tryd.ntmps26
    go_wp2_with (go_at_call 58; refine (ref02_within _ _ _ _).mono ?_; rintro e w' ⟨rfl, rfl⟩)
    go_ret
    exact ⟨ret_bool HK.out, (Below.refl _ _).alloc (Nat.le_refl _) _⟩
  cases h2 : withinI c2 1 8
  · have HK : Hid (false = cfgOk c0 c1 c2 c3 c4 c5 c6) := by show false = _; rw [← within_ok]; simp [h0, h1, h2]
    go_enter Tryd.func26, Tryd.ntmps26
    go_wp2_with (go_at_call 58; refine (ref02_within _ _ _ _).mono ?_; rintro e w' ⟨rfl, rfl⟩)
    go_ret
    exact ⟨ret_bool HK.out, (Below.refl _ _).alloc (Nat.le_refl _) _⟩
  cases h3 : withinI c3 1 64
  · have HK : Hid (false = cfgOk c0 c1 c2 c3 c4 c5 c6) := by show false = _; rw [← within_ok]; simp [h0, h1, h2, h3]
    go_enter Tryd.func26, Tryd.ntmps26
    go_wp2_with (go_at_call 58; refine (ref02_within _ _ _ _).mono ?_; rintro e w' ⟨rfl, rfl⟩)
    go_ret
    exact ⟨ret_bool HK.out, (Below.refl _ _).alloc (Nat.le_refl _) _⟩
  cases h4 : withinI c4 0 64
  · have HK : Hid (false = cfgOk c0 c1 c2 c3 c4 c5 c6) := by show false = _; rw [← within_ok]; simp [h0, h1, h2, h3, h4]
    go_enter Tryd.func26, Tryd.ntmps26
    go_wp2_with (go_at_call 58; refine (ref02_within _ _ _ _).mono ?_; rintro e w' ⟨rfl, rfl⟩)
    go_ret
    exact ⟨ret_bool HK.out, (Below.refl _ _).alloc (Nat.le_refl _) _⟩
  cases h5 : withinI c5 1 256
  · have HK : Hid (false = cfgOk c0 c1 c2 c3 c4 c5 c6) := by show false = _; rw [← within_ok]; simp [h0, h1, h2, h3, h4, h5]
    go_enter Tryd.func26, Tryd.ntmps26
    go_wp2_with (go_at_call 58; refine (ref02_within _ _ _ _).mono ?_; rintro e w' ⟨rfl, rfl⟩)
    go_ret
    exact ⟨ret_bool HK.out, (Below.refl _ _).alloc (Nat.le_refl _) _⟩
  cases h6 : withinI c6 1 4096
  · have HK : Hid (false = cfgOk c0 c1 c2 c3 c4 c5 c6) := by show false = _; rw [← within_ok]; simp [h0, h1, h2, h3, h4, h5, h6]
    go_enter Tryd.func26, Tryd.ntmps26
    go_wp2_with (go_at_call 58; refine (ref02_within _ _ _ _).mono ?_; rintro e w' ⟨rfl, rfl⟩)
    go_ret
    exact ⟨ret_bool HK.out, (Below.refl _ _).alloc (Nat.le_refl _) _⟩
  have HK : Hid (true = cfgOk c0 c1 c2 c3 c4 c5 c6) := by show true = _; rw [← within_ok]; simp [h0, h1, h2, h3, h4, h5, h6]
  go_enter Tryd.func26, Tryd.ntmps26
  go_wp2_with (go_at_call 58; refine (ref02_within _ _ _ _).mono ?_; rintro e w' ⟨rfl, rfl⟩)
  go_ret
  exact ⟨ret_bool HK.out, (Below.refl _ _).alloc (Nat.le_refl _) _⟩

theorem mul_bd {a b A B : Int} (h0 : 0 ≤ a) (h1 : a ≤ A) (h2 : 0 ≤ b) (h3 : b ≤ B) : 0 ≤ a * b ∧ a * b ≤ A * B :=
  ⟨Int.mul_nonneg h0 h2, Int.le_trans (Int.mul_le_mul_of_nonneg_right h1 h2) (Int.mul_le_mul_of_nonneg_left h3 (by omega))⟩
def cfgWords (c0 c1 : Int) : Int := c0 * c1
def cfgSlots (c0 c1 : Int) : Int := c0 * (c1 / 2)
def cfgOp (c1 c5 : Int) : Int := 64 + 4 * c5 + c1
def cfgAnswer (c3 c5 : Int) : Int := 16 + c3 * (c5 + 8) + 4 * c5
def ifOk (b : Bool) (n : Int) : Int := match b with | true => n | false => 0

set_option maxHeartbeats 1000000 in
theorem ref02_Slots (c0 c1 c2 c3 c4 c5 c6 : Int) (hk : cfgOk c0 c1 c2 c3 c4 c5 c6 = true) (w : World) :
    Calls Tryd.prog 34 #[.agg #[.int .i64 c0, .int .i64 c1, .int .i64 c2, .int .i64 c3, .int .i64 c4, .int .i64 c5, .int .i64 c6]] w fun e w' => e = .returned (.int .i64 (cfgSlots c0 c1)) ∧ Below w.heap.size w w' := by
  obtain ⟨⟨u0, v0⟩, ⟨u1, v1⟩, ⟨u2, v2⟩, ⟨u3, v3⟩, ⟨u4, v4⟩, ⟨u5, v5⟩, u6, v6⟩ := cfgOk_iff.1 hk
  clear hk
  have ⟨m0, m1⟩ := mul_bd (a := c0) (b := c1 / 2) (A := 4096) (B := 128) (by omega) (by omega) (by omega) (by omega)
  go_enter Tryd.func34, Tryd.ntmps34
  go_wp2
  go_ret
  exact ⟨rfl, (Below.refl _ _).alloc (Nat.le_refl _) _⟩

set_option maxHeartbeats 1000000 in
theorem ref02_Op (c0 c1 c2 c3 c4 c5 c6 : Int) (hk : cfgOk c0 c1 c2 c3 c4 c5 c6 = true) (w : World) :
    Calls Tryd.prog 35 #[.agg #[.int .i64 c0, .int .i64 c1, .int .i64 c2, .int .i64 c3, .int .i64 c4, .int .i64 c5, .int .i64 c6]] w fun e w' => e = .returned (.int .i64 (cfgOp c1 c5)) ∧ Below w.heap.size w w' := by
  obtain ⟨⟨u0, v0⟩, ⟨u1, v1⟩, ⟨u2, v2⟩, ⟨u3, v3⟩, ⟨u4, v4⟩, ⟨u5, v5⟩, u6, v6⟩ := cfgOk_iff.1 hk
  clear hk
  
  go_enter Tryd.func35, Tryd.ntmps35
  go_wp2
  go_ret
  exact ⟨rfl, (Below.refl _ _).alloc (Nat.le_refl _) _⟩

set_option maxHeartbeats 1000000 in
theorem ref02_Answer (c0 c1 c2 c3 c4 c5 c6 : Int) (hk : cfgOk c0 c1 c2 c3 c4 c5 c6 = true) (w : World) :
    Calls Tryd.prog 36 #[.agg #[.int .i64 c0, .int .i64 c1, .int .i64 c2, .int .i64 c3, .int .i64 c4, .int .i64 c5, .int .i64 c6]] w fun e w' => e = .returned (.int .i64 (cfgAnswer c3 c5)) ∧ Below w.heap.size w w' := by
  obtain ⟨⟨u0, v0⟩, ⟨u1, v1⟩, ⟨u2, v2⟩, ⟨u3, v3⟩, ⟨u4, v4⟩, ⟨u5, v5⟩, u6, v6⟩ := cfgOk_iff.1 hk
  clear hk
  have ⟨m0, m1⟩ := mul_bd (a := c3) (b := c5 + 8) (A := 64) (B := 264) (by omega) (by omega) (by omega) (by omega)
  go_enter Tryd.func36, Tryd.ntmps36
  go_wp2
  go_ret
  exact ⟨rfl, (Below.refl _ _).alloc (Nat.le_refl _) _⟩

set_option maxHeartbeats 1000000 in
theorem config_Words (c0 c1 c2 c3 c4 c5 c6 : Int) (w : World) (hL : Limits w) :
    Calls Tryd.prog 29 #[.agg #[.int .i64 c0, .int .i64 c1, .int .i64 c2, .int .i64 c3, .int .i64 c4, .int .i64 c5, .int .i64 c6]] w fun e w' => e = .returned (.int .i64 (ifOk (cfgOk c0 c1 c2 c3 c4 c5 c6) (cfgWords c0 c1))) ∧ Below w.heap.size w w' := by
  have HL := Lib.hid hL
  have hmf : ∀ (fn : Fn) (first cap : Array Value) (w : World), (Instr.makeFunc fn first cap).run Tryd.prog w = .ok (.func fn first cap) w := fun _ _ _ _ => rfl
  clear hL
  cases hk : cfgOk c0 c1 c2 c3 c4 c5 c6
  · have HK := Lib.hid hk
    clear hk
    go_enter Tryd.func29, Tryd.ntmps29
    go_wp2_with (first | (go_at_call 25; refine (config_Right c0 c1 c2 c3 c4 c5 c6 _ (HL.out.touch (S := nob) (by repeat (first | with_reducible exact Touch.refl _ _ | with_reducible assumption | with_reducible apply Touch.alloc | with_reducible apply Touch.drewN | with_reducible apply Touch.drew | with_reducible refine Touch.setCell ?_ (.inr (by first | omega | (simp; done) | (simp; omega))) _)) (fun x => x))).mono ?_; rintro e w1 ⟨rfl, hb⟩; rw [HK.out]) | (go_at_call 61; go_in))
    go_ret
    exact ⟨rfl, Touch.below ((Touch.alloc (Touch.alloc (Touch.refl nob w) _) _).trans (Touch.of_below hb))⟩
  · have HK := Lib.hid hk
    obtain ⟨⟨u0, v0⟩, ⟨u1, v1⟩, ⟨u2, v2⟩, ⟨u3, v3⟩, ⟨u4, v4⟩, ⟨u5, v5⟩, u6, v6⟩ := cfgOk_iff.1 hk
    clear hk
    have ⟨m0, m1⟩ := mul_bd (a := c0) (b := c1) (A := 4096) (B := 256) (by omega) (by omega) (by omega) (by omega)
    go_enter Tryd.func29, Tryd.ntmps29
    go_wp2_with (first | (go_at_call 25; refine (config_Right c0 c1 c2 c3 c4 c5 c6 _ (HL.out.touch (S := nob) (by repeat (first | with_reducible exact Touch.refl _ _ | with_reducible assumption | with_reducible apply Touch.alloc | with_reducible apply Touch.drewN | with_reducible apply Touch.drew | with_reducible refine Touch.setCell ?_ (.inr (by first | omega | (simp; done) | (simp; omega))) _)) (fun x => x))).mono ?_; rintro e w1 ⟨rfl, hb⟩; rw [HK.out]; obtain ⟨hc, hf⟩ := bcell hb) | (go_at_call 61; go_in) | (go_at_call 62; go_in))
    go_ret
    exact ⟨rfl, Touch.below ((Touch.alloc (Touch.alloc (Touch.refl nob w) _) _).trans (Touch.of_below hb))⟩

set_option maxHeartbeats 1000000 in
theorem config_Slots (c0 c1 c2 c3 c4 c5 c6 : Int) (w : World) (hL : Limits w) :
    Calls Tryd.prog 30 #[.agg #[.int .i64 c0, .int .i64 c1, .int .i64 c2, .int .i64 c3, .int .i64 c4, .int .i64 c5, .int .i64 c6]] w fun e w' => e = .returned (.int .i64 (ifOk (cfgOk c0 c1 c2 c3 c4 c5 c6) (cfgSlots c0 c1))) ∧ Below w.heap.size w w' := by
  have HL := Lib.hid hL
  have hmf : ∀ (fn : Fn) (first cap : Array Value) (w : World), (Instr.makeFunc fn first cap).run Tryd.prog w = .ok (.func fn first cap) w := fun _ _ _ _ => rfl
  clear hL
  cases hk : cfgOk c0 c1 c2 c3 c4 c5 c6
  · have HK := Lib.hid hk
    clear hk
    go_enter Tryd.func30, Tryd.ntmps30
    go_wp2_with (first | (go_at_call 25; refine (config_Right c0 c1 c2 c3 c4 c5 c6 _ (HL.out.touch (S := nob) (by repeat (first | with_reducible exact Touch.refl _ _ | with_reducible assumption | with_reducible apply Touch.alloc | with_reducible apply Touch.drewN | with_reducible apply Touch.drew | with_reducible refine Touch.setCell ?_ (.inr (by first | omega | (simp; done) | (simp; omega))) _)) (fun x => x))).mono ?_; rintro e w1 ⟨rfl, hb⟩; rw [HK.out]) | (go_at_call 61; go_in))
    go_ret
    exact ⟨rfl, Touch.below ((Touch.alloc (Touch.alloc (Touch.refl nob w) _) _).trans (Touch.of_below hb))⟩
  · have HK := Lib.hid hk
    obtain ⟨⟨u0, v0⟩, ⟨u1, v1⟩, ⟨u2, v2⟩, ⟨u3, v3⟩, ⟨u4, v4⟩, ⟨u5, v5⟩, u6, v6⟩ := cfgOk_iff.1 hk
    clear hk
    have ⟨m0, m1⟩ := mul_bd (a := c0) (b := c1 / 2) (A := 4096) (B := 128) (by omega) (by omega) (by omega) (by omega)
    go_enter Tryd.func30, Tryd.ntmps30
    go_wp2_with (first | (go_at_call 25; refine (config_Right c0 c1 c2 c3 c4 c5 c6 _ (HL.out.touch (S := nob) (by repeat (first | with_reducible exact Touch.refl _ _ | with_reducible assumption | with_reducible apply Touch.alloc | with_reducible apply Touch.drewN | with_reducible apply Touch.drew | with_reducible refine Touch.setCell ?_ (.inr (by first | omega | (simp; done) | (simp; omega))) _)) (fun x => x))).mono ?_; rintro e w1 ⟨rfl, hb⟩; rw [HK.out]; obtain ⟨hc, hf⟩ := bcell hb) | (go_at_call 61; go_in) | (go_at_call 63; go_in))
    go_ret
    exact ⟨rfl, Touch.below ((Touch.alloc (Touch.alloc (Touch.refl nob w) _) _).trans (Touch.of_below hb))⟩

set_option maxHeartbeats 1000000 in
theorem config_OpPicks (c0 c1 c2 c3 c4 c5 c6 : Int) (w : World) (hL : Limits w) :
    Calls Tryd.prog 31 #[.agg #[.int .i64 c0, .int .i64 c1, .int .i64 c2, .int .i64 c3, .int .i64 c4, .int .i64 c5, .int .i64 c6]] w fun e w' => e = .returned (.int .i64 (ifOk (cfgOk c0 c1 c2 c3 c4 c5 c6) (cfgOp c1 c5))) ∧ Below w.heap.size w w' := by
  have HL := Lib.hid hL
  have hmf : ∀ (fn : Fn) (first cap : Array Value) (w : World), (Instr.makeFunc fn first cap).run Tryd.prog w = .ok (.func fn first cap) w := fun _ _ _ _ => rfl
  clear hL
  cases hk : cfgOk c0 c1 c2 c3 c4 c5 c6
  · have HK := Lib.hid hk
    clear hk
    go_enter Tryd.func31, Tryd.ntmps31
    go_wp2_with (first | (go_at_call 25; refine (config_Right c0 c1 c2 c3 c4 c5 c6 _ (HL.out.touch (S := nob) (by repeat (first | with_reducible exact Touch.refl _ _ | with_reducible assumption | with_reducible apply Touch.alloc | with_reducible apply Touch.drewN | with_reducible apply Touch.drew | with_reducible refine Touch.setCell ?_ (.inr (by first | omega | (simp; done) | (simp; omega))) _)) (fun x => x))).mono ?_; rintro e w1 ⟨rfl, hb⟩; rw [HK.out]) | (go_at_call 61; go_in))
    go_ret
    exact ⟨rfl, Touch.below ((Touch.alloc (Touch.alloc (Touch.refl nob w) _) _).trans (Touch.of_below hb))⟩
  · have HK := Lib.hid hk
    obtain ⟨⟨u0, v0⟩, ⟨u1, v1⟩, ⟨u2, v2⟩, ⟨u3, v3⟩, ⟨u4, v4⟩, ⟨u5, v5⟩, u6, v6⟩ := cfgOk_iff.1 hk
    clear hk
    
    go_enter Tryd.func31, Tryd.ntmps31
    go_wp2_with (first | (go_at_call 25; refine (config_Right c0 c1 c2 c3 c4 c5 c6 _ (HL.out.touch (S := nob) (by repeat (first | with_reducible exact Touch.refl _ _ | with_reducible assumption | with_reducible apply Touch.alloc | with_reducible apply Touch.drewN | with_reducible apply Touch.drew | with_reducible refine Touch.setCell ?_ (.inr (by first | omega | (simp; done) | (simp; omega))) _)) (fun x => x))).mono ?_; rintro e w1 ⟨rfl, hb⟩; rw [HK.out]; obtain ⟨hc, hf⟩ := bcell hb) | (go_at_call 61; go_in) | (go_at_call 64; go_in))
    go_ret
    exact ⟨rfl, Touch.below ((Touch.alloc (Touch.alloc (Touch.refl nob w) _) _).trans (Touch.of_below hb))⟩

set_option maxHeartbeats 1000000 in
theorem config_AnswerPicks (c0 c1 c2 c3 c4 c5 c6 : Int) (w : World) (hL : Limits w) :
    Calls Tryd.prog 32 #[.agg #[.int .i64 c0, .int .i64 c1, .int .i64 c2, .int .i64 c3, .int .i64 c4, .int .i64 c5, .int .i64 c6]] w fun e w' => e = .returned (.int .i64 (ifOk (cfgOk c0 c1 c2 c3 c4 c5 c6) (cfgAnswer c3 c5))) ∧ Below w.heap.size w w' := by
  have HL := Lib.hid hL
  have hmf : ∀ (fn : Fn) (first cap : Array Value) (w : World), (Instr.makeFunc fn first cap).run Tryd.prog w = .ok (.func fn first cap) w := fun _ _ _ _ => rfl
  clear hL
  cases hk : cfgOk c0 c1 c2 c3 c4 c5 c6
  · have HK := Lib.hid hk
    clear hk
    go_enter Tryd.func32, Tryd.ntmps32
    go_wp2_with (first | (go_at_call 25; refine (config_Right c0 c1 c2 c3 c4 c5 c6 _ (HL.out.touch (S := nob) (by repeat (first | with_reducible exact Touch.refl _ _ | with_reducible assumption | with_reducible apply Touch.alloc | with_reducible apply Touch.drewN | with_reducible apply Touch.drew | with_reducible refine Touch.setCell ?_ (.inr (by first | omega | (simp; done) | (simp; omega))) _)) (fun x => x))).mono ?_; rintro e w1 ⟨rfl, hb⟩; rw [HK.out]) | (go_at_call 61; go_in))
    go_ret
    exact ⟨rfl, Touch.below ((Touch.alloc (Touch.alloc (Touch.refl nob w) _) _).trans (Touch.of_below hb))⟩
  · have HK := Lib.hid hk
    obtain ⟨⟨u0, v0⟩, ⟨u1, v1⟩, ⟨u2, v2⟩, ⟨u3, v3⟩, ⟨u4, v4⟩, ⟨u5, v5⟩, u6, v6⟩ := cfgOk_iff.1 hk
    clear hk
    have ⟨m0, m1⟩ := mul_bd (a := c3) (b := c5 + 8) (A := 64) (B := 264) (by omega) (by omega) (by omega) (by omega)
    go_enter Tryd.func32, Tryd.ntmps32
    go_wp2_with (first | (go_at_call 25; refine (config_Right c0 c1 c2 c3 c4 c5 c6 _ (HL.out.touch (S := nob) (by repeat (first | with_reducible exact Touch.refl _ _ | with_reducible assumption | with_reducible apply Touch.alloc | with_reducible apply Touch.drewN | with_reducible apply Touch.drew | with_reducible refine Touch.setCell ?_ (.inr (by first | omega | (simp; done) | (simp; omega))) _)) (fun x => x))).mono ?_; rintro e w1 ⟨rfl, hb⟩; rw [HK.out]; obtain ⟨hc, hf⟩ := bcell hb) | (go_at_call 61; go_in) | (go_at_call 65; go_in))
    go_ret
    exact ⟨rfl, Touch.below ((Touch.alloc (Touch.alloc (Touch.refl nob w) _) _).trans (Touch.of_below hb))⟩
end Go.Proofs.YtmonmiadcmffgaaDoor
