/- The document's small configs, walked. Conditions: none. -/
import Derived.Test.YtflhjbmoncbomaaGreatDoorBlk2
import Derived.Deep.RegionWith
import Derived.Test.YtflhjbmoncbomaaGreatDoorRound
namespace Go.Proofs.YtflhjbmoncbomaaGreatDoor
open Go.RowKit

theorem mod_eq (n m : Int) (h0 : 0 < m) : (n.tmod m + m).tmod m = n % m := by
  have h1 := Int.tmod_lt_of_pos n h0
  have h2 : -m < n.tmod m := by
    have := Int.lt_tmod_of_pos n h0
    omega
  rw [Int.tmod_eq_emod_of_nonneg (by omega)]
  have h3 : n = n.tmod m + m * n.tdiv m := by have := Int.tmod_add_mul_tdiv n m; omega
  conv => rhs; rw [h3]
  rw [Int.add_mul_emod_self_left, Int.add_emod_right]
theorem ref02_mod (n m : Int) (h0 : 0 < m) (h1 : m ≤ 20) (w : World) :
    Calls Tryz.prog 55 #[.int .i64 n, .int .i64 m] w fun e w' => e = .returned (.int .i64 (n % m)) ∧ w = w' := by
  obtain ⟨t, ht⟩ : ∃ t, n.tmod m = t := ⟨_, rfl⟩
  obtain ⟨r, hr⟩ : ∃ r, (t + m).tmod m = r := ⟨_, rfl⟩
  have hR : n % m = r := by rw [← mod_eq n m h0, ht, hr]
  have h2 := Int.tmod_lt_of_pos n h0
  have h3 := Int.lt_tmod_of_pos n h0
  rw [ht] at h2 h3
  rw [hR]
  have hm : ¬ m = 0 := by omega
  have hm1 : ¬ m = -1 := by omega
  go_enter Tryz.func55, Tryz.ntmps55
  go_wp2
  go_ret
  exact ⟨rfl, rfl⟩
/-- The small config. -/
def little (c : Cf) : Cf := ⟨1 + c.c0 % 4, 16 + c.c1 % 20, 1 + c.c2 % 4, 1 + c.c3 % 5, c.c4 % 4, 1 + c.c5 % 4, 1 + c.c6 % 4⟩
theorem little_ok (c : Cf) : (little c).ok = true := by
  apply cfgOk_iff.2
  simp only [little]
  omega
theorem ref02_Little (c : Cf) (w : World) :
    Calls Tryz.prog 12 #[c.V] w fun e w' => e = .returned (little c).V ∧ Touch nob w w' := by
  obtain ⟨a0, a1, a2, a3, a4, a5, a6⟩ := c
  go_enter Tryz.func12, Tryz.ntmps12
  go_wp2
  refine wp_region_quiet_tail_drew 28 (by kernel_rfl) (by kernel_rfl) ?_
  simp only [List.take_succ_cons, List.take_zero, List.drop_succ_cons, List.drop_zero]
  repeat (go_big_quiet_step (((go_at_call 55; exact Calls.quiet_of_same ((ref02_mod _ _ (by omega) (by omega) _).mono fun _ _ h => ⟨h.1, h.2.symm⟩)))))
  refine wpQuiet_nil ?_; intro _ hw'; obtain ⟨nq, hw''⟩ := hw'; subst hw''
  go_wp2
  refine bodyPost_ret (v := .agg #[.int .i64 (1 + a0 % 4), .int .i64 (16 + a1 % 20), .int .i64 (1 + a2 % 4), .int .i64 (1 + a3 % 5), .int .i64 (a4 % 4), .int .i64 (1 + a5 % 4), .int .i64 (1 + a6 % 4)]) (by simp [results, Tryz.results12, go_sem]) rfl ⟨rfl, ?_⟩
  (repeat (first | with_reducible exact Touch.refl _ _ | with_reducible assumption | with_reducible apply Touch.alloc | with_reducible apply Touch.drewN | with_reducible apply Touch.drew | with_reducible refine Touch.setCell ?_ (.inr (by first | omega | (simp; done) | (simp; omega))) _))
end Go.Proofs.YtflhjbmoncbomaaGreatDoor
