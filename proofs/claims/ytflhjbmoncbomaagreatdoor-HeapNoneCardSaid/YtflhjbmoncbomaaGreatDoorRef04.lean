/- The document's answers for addresses, walked. Conditions: none. -/
import Derived.Test.YtflhjbmoncbomaaGreatDoorFind
import Derived.Deep.Cut
namespace Go.Proofs.YtflhjbmoncbomaaGreatDoor
open Go.RowKit Go.Sort

theorem pl_box {W : World} {b : Nat} {t : TypeId} {x y z : Int} (h : W.heap[b]? = some (Obj.cells #[.int .i64 x, .int .i64 y, .int .i64 z] t)) {w' : World} (ht : Touch nob W w') :
    w'.cell? ⟨b, 0, none⟩ = some (.int .i64 x) ∧ w'.cell? ⟨b, 1, none⟩ = some (.int .i64 y) ∧ w'.cell? ⟨b, 2, none⟩ = some (.int .i64 z) := by
  have hb := (Array.getElem?_eq_some_iff.1 h).1
  have e := (ht.block b hb (fun x => x)).trans h
  simp [World.cell?, e]
theorem same_regrown {f : FuncId} {args : Array Value} {v : Value} {W : World} (h : ∀ w, Calls Tryz.prog f args w fun e w' => e = .returned v ∧ w = w') (d : Nat) (os : Array Obj) :
    Calls Tryz.prog f args (grow (redrawn W d) os) fun e w'' => e = .returned v ∧ ∃ p : Regrown, w'' = grow (redrawn W p.d) p.os :=
  (h _).mono fun _ _ h => ⟨h.1, ⟨⟨d, os⟩, h.2.symm⟩⟩

set_option maxHeartbeats 4000000 in
theorem ref04_Of (c0 c1 c2 c3 c4 c5 c6 k b s x : Int) (w : World) :
    Calls Tryz.prog 110 #[CfgV c0 c1 c2 c3 c4 c5 c6, .int .i64 k, PlV b s x] w fun e w' => e = .returned (.int .i64 (ifB (plOk c0 c1 c2 c3 c4 c5 c6 k b s x) (plA c1 k b s x))) ∧ Below w.heap.size w w' := by
  go_enter Tryz.func110, Tryz.ntmps110
  go_wp2_with fail
  obtain ⟨W, hW⟩ : ∃ W, W = (w.alloc (Obj.cells (CfgRow c0 c1 c2 c3 c4 c5 c6) 23)).alloc (Obj.cells #[.int .i64 b, .int .i64 s, .int .i64 x] 148) := ⟨_, rfl⟩
  obtain ⟨n, hn⟩ : ∃ n, n = w.heap.size := ⟨_, rfl⟩
  rw [← hW, ← hn]
  have hr : W.heap[n]? = some (Obj.cells (CfgRow c0 c1 c2 c3 c4 c5 c6) 23) := by rw [hW, hn]; exact (alloc2_0 w _ _).trans rfl
  have hr2 : W.heap[n + 1]? = some (Obj.cells #[.int .i64 b, .int .i64 s, .int .i64 x] 148) := by rw [hW, hn]; exact alloc2_1 w _ _
  have HT : Hid (Touch nob w W) := by show Touch nob w W; rw [hW]; exact ((Touch.refl _ _).alloc _).alloc _
  have HB := Lib.hid (fun w' ht => cfg_box hr (w' := w') ht)
  have HB2 := Lib.hid (fun w' ht => pl_box hr2 (w' := w') ht)
  obtain ⟨r0, r1, r2, r3, r4, r5, r6⟩ := cfg_box hr (Touch.refl _ _)
  have k0 := cell_regrown r0
  have k1 := cell_regrown r1
  have k2 := cell_regrown r2
  have k3 := cell_regrown r3
  have k4 := cell_regrown r4
  have k5 := cell_regrown r5
  have k6 := cell_regrown r6
  obtain ⟨s0, s1, s2⟩ := pl_box hr2 (Touch.refl _ _)
  have p0 := cell_regrown s0
  have p1 := cell_regrown s1
  have p2 := cell_regrown s2
  have d1 := fun d os => Calls.regrown_of (ref02_Right c0 c1 c2 c3 c4 c5 c6 (grow (redrawn W d) os))
  have d2 := same_regrown (W := W) (ref03_Is k)
  have d3 := same_regrown (W := W) (ref03_Per c1 k)
  have d4 := same_regrown (W := W) (ref03_Size k)
  clear hW hn hr hr2 r0 r1 r2 r3 r4 r5 r6 s0 s1 s2
  cases hk : plOk c0 c1 c2 c3 c4 c5 c6 k b s x
  · have main : (cfgOk c0 c1 c2 c3 c4 c5 c6 = false) ∨ (cfgOk c0 c1 c2 c3 c4 c5 c6 = true ∧ isCls k = false) ∨ (cfgOk c0 c1 c2 c3 c4 c5 c6 = true ∧ isCls k = true ∧ decide (b < 0) = true) ∨ (cfgOk c0 c1 c2 c3 c4 c5 c6 = true ∧ isCls k = true ∧ decide (b < 0) = false ∧ decide (c0 ≤ b) = true) ∨ (cfgOk c0 c1 c2 c3 c4 c5 c6 = true ∧ isCls k = true ∧ decide (b < 0) = false ∧ decide (c0 ≤ b) = false ∧ decide (s < 0) = true) ∨ (cfgOk c0 c1 c2 c3 c4 c5 c6 = true ∧ isCls k = true ∧ decide (b < 0) = false ∧ decide (c0 ≤ b) = false ∧ decide (s < 0) = false ∧ decide (perBlock c1 k ≤ s) = true) ∨ (cfgOk c0 c1 c2 c3 c4 c5 c6 = true ∧ isCls k = true ∧ decide (b < 0) = false ∧ decide (c0 ≤ b) = false ∧ decide (s < 0) = false ∧ decide (perBlock c1 k ≤ s) = false ∧ decide (x < 0) = true) ∨ (cfgOk c0 c1 c2 c3 c4 c5 c6 = true ∧ isCls k = true ∧ decide (b < 0) = false ∧ decide (c0 ≤ b) = false ∧ decide (s < 0) = false ∧ decide (perBlock c1 k ≤ s) = false ∧ decide (x < 0) = false ∧ decide (clsSize k ≤ x) = true) := by
      cases hc : cfgOk c0 c1 c2 c3 c4 c5 c6
      · exact .inl rfl
      · cases hi : isCls k
        · exact .inr (.inl ⟨rfl, rfl⟩)
        · have hx : ¬ ((0 ≤ b ∧ b < c0) ∧ (0 ≤ s ∧ s < perBlock c1 k) ∧ 0 ≤ x ∧ x < clsSize k) := fun h => by
            have := plOk_iff.2 ⟨hc, hi, h⟩
            rw [hk] at this; exact absurd this (by decide)
          simp only [decide_eq_true_eq, decide_eq_false_iff_not, true_and]
          refine .inr (.inr ?_)
          omega
    have HK := Lib.hid hk
    clear hk
    rcases main with h1 | ⟨h1, h2⟩ | ⟨h1, h2, h3⟩ | ⟨h1, h2, h3, h4⟩ | ⟨h1, h2, h3, h4, h5⟩ | ⟨h1, h2, h3, h4, h5, h6⟩ | ⟨h1, h2, h3, h4, h5, h6, h7⟩ | ⟨h1, h2, h3, h4, h5, h6, h7, h8⟩
    all_goals
      rw [h1] at d1
      try rw [h2] at d2
      clear h1
      try clear h2
      refine wp_region_quiet_below (by kernel_rfl) (by kernel_rfl) ?_
      repeat (go_big_quiet_step (first | (go_at_call 35; exact d1 _ _) | (go_at_call 108; exact d2 _ _) | (go_at_call 109; exact d3 _ _) | (go_at_call 111; exact d4 _ _)))
      refine wpQuiet_nil ?_
      intro W2 hw'
      obtain ⟨⟨dq, osq⟩, hw''⟩ := hw'
      simp only at hw''
      have hT2 : Touch nob W W2 := by rw [hw'']; exact Touch.of_below (below_regrown W dq osq)
      clear hw'' d1 d2 d3 d4 k0 k1 k2 k3 k4 k5 k6 p0 p1 p2
      go_wp2
      go_ret
      exact ⟨ret_int (by rw [HK.out]; rfl), (HT.out.trans hT2).below⟩
  · obtain ⟨hc, hi, ⟨b0, b1⟩, ⟨s0, s1⟩, x0, x1⟩ := plOk_iff.1 hk
    obtain ⟨⟨m0, m1⟩, ⟨m2, m3⟩, m4⟩ := pl_bd hk
    obtain ⟨⟨u0, v0⟩, ⟨u1, v1⟩, _⟩ := cfgOk_iff.1 hc
    have q1 := (clsSize_bd k).2
    rw [hc] at d1
    rw [hi] at d2
    have e3 : decide (b < 0) = false := by simp; omega
    have e4 : decide (c0 ≤ b) = false := by simp; omega
    have e5 : decide (s < 0) = false := by simp; omega
    have e6 : decide (perBlock c1 k ≤ s) = false := by simp; omega
    have e7 : decide (x < 0) = false := by simp; omega
    have e8 : decide (clsSize k ≤ x) = false := by simp; omega
    have HK := Lib.hid hk
    clear hc hi hk
    refine wp_region_quiet_below (by kernel_rfl) (by kernel_rfl) ?_
    repeat (go_big_quiet_step (first | (go_at_call 35; exact d1 _ _) | (go_at_call 108; exact d2 _ _) | (go_at_call 109; exact d3 _ _) | (go_at_call 111; exact d4 _ _)))
    refine wpQuiet_nil ?_
    intro W2 hw'
    obtain ⟨⟨dq, osq⟩, hw''⟩ := hw'
    simp only at hw''
    have hT2 : Touch nob W W2 := by rw [hw'']; exact Touch.of_below (below_regrown W dq osq)
    clear hw'' d1 d2 d3 d4 k0 k1 k2 k3 k4 k5 k6 p0 p1 p2
    obtain ⟨k0, k1, k2, k3, k4, k5, k6⟩ := HB.out _ hT2
    obtain ⟨p0, p1, p2⟩ := HB2.out _ hT2
    go_wp2_with fail
    go_quiet ((go_at_call 111; exact Calls.quiet_of_same ((ref03_Size _ _).mono fun _ _ h => ⟨h.1, h.2.symm⟩)))
    go_wp2
    go_ret
    exact ⟨ret_int (by rw [HK.out]; rfl), ((HT.out.trans hT2).drewN nq).below⟩
end Go.Proofs.YtflhjbmoncbomaaGreatDoor
