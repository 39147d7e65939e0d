/- The laws of the bounds of picks, walked. Conditions: the table of limits reads as laid. -/
import Derived.Test.YtmonmiadcmffgaaDoorCycle
namespace Go.Proofs.YtmonmiadcmffgaaDoor
open Go.RowKit Go.Sort

theorem timesI_zero (b : Int) : timesI 0 b = 0 := by unfold timesI; rw [Int.zero_mul]; exact if_pos (by decide)
theorem markI_zero {c0 c1 c2 c3 c4 c5 k : Int} (h : k ≤ 0) : markI c0 c1 c2 c3 c4 c5 k = 0 := by
  unfold markI; rw [show max 0 k = 0 by omega, timesI_zero, timesI_zero]
theorem cycleI_zero {c0 c1 c2 c3 c4 c5 k : Int} (h : k ≤ 0) : cycleI c0 c1 c2 c3 c4 c5 k = 0 := by
  unfold cycleI; rw [markI_zero h, show max 0 k = 0 by omega, timesI_zero]; exact if_neg (by decide)
theorem slots_mono {a0 a1 b0 b1 : Int} (h : 0 ≤ a0) (h' : 0 ≤ a1) (h0 : a0 ≤ b0) (h1 : a1 ≤ b1) : cfgSlots a0 a1 ≤ cfgSlots b0 b1 := by
  unfold cfgSlots
  exact Int.le_trans (Int.mul_le_mul_of_nonneg_right h0 (by omega)) (Int.mul_le_mul_of_nonneg_left (by omega) (by omega))
theorem mul_mono {a b c d : Int} (ha : 0 ≤ a) (hb : 0 ≤ b) (h0 : a ≤ c) (h1 : b ≤ d) : a * b ≤ c * d :=
  Int.le_trans (Int.mul_le_mul_of_nonneg_right h0 hb) (Int.mul_le_mul_of_nonneg_left h1 (by omega))
theorem round_mono {a0 a1 a2 a3 a4 a5 a6 b0 b1 b2 b3 b4 b5 : Int} (h : cfgOk a0 a1 a2 a3 a4 a5 a6 = true) (h0 : a0 ≤ b0) (h1 : a1 ≤ b1) (h2 : a2 ≤ b2) (h3 : a3 ≤ b3) (h4 : a4 ≤ b4) (h5 : a5 ≤ b5) :
    cfgRound a0 a1 a2 a3 a4 a5 ≤ cfgRound b0 b1 b2 b3 b4 b5 ∧ cfgRest a0 a1 a2 a3 a5 ≤ cfgRest b0 b1 b2 b3 b5 ∧ 0 ≤ cfgRound a0 a1 a2 a3 a4 a5 ∧ 0 ≤ cfgRest a0 a1 a2 a3 a5 := by
  obtain ⟨⟨n0, n1⟩, ⟨o0, o1⟩, ⟨x0, x1⟩, ⟨p0, p1⟩, q0, q1⟩ := cfg_bd h
  obtain ⟨⟨u0, v0⟩, ⟨u1, v1⟩, ⟨u2, v2⟩, ⟨u3, v3⟩, ⟨u4, v4⟩, ⟨u5, v5⟩, u6, v6⟩ := cfgOk_iff.1 h
  have s := slots_mono (a0 := a0) (a1 := a1) (by omega) (by omega) h0 h1
  have m1 := mul_mono (a := 2 * a2) (b := a5 + 4) (c := 2 * b2) (d := b5 + 4) (by omega) (by omega) (by omega) (by omega)
  have m2 := mul_mono (a := a3) (b := a5 + 8) (c := b3) (d := b5 + 8) (by omega) (by omega) (by omega) (by omega)
  have m3 := mul_mono (a := 2 * a0) (b := a1 + 8) (c := 2 * b0) (d := b1 + 8) (by omega) (by omega) (by omega) (by omega)
  unfold cfgRound cfgRest cfgOp cfgAnswer
  unfold cfgOp at o0
  unfold cfgAnswer at x0
  exact ⟨by omega, by omega, by omega, by omega⟩
theorem markI_mono {a0 a1 a2 a3 a4 a5 a6 b0 b1 b2 b3 b4 b5 k : Int} (h : cfgOk a0 a1 a2 a3 a4 a5 a6 = true) (h0 : a0 ≤ b0) (h1 : a1 ≤ b1) (h2 : a2 ≤ b2) (h3 : a3 ≤ b3) (h4 : a4 ≤ b4) (h5 : a5 ≤ b5) :
    markI a0 a1 a2 a3 a4 a5 k ≤ markI b0 b1 b2 b3 b4 b5 k := by
  obtain ⟨⟨n0, n1⟩, _⟩ := cfg_bd h
  obtain ⟨⟨u0, v0⟩, ⟨u1, v1⟩, _⟩ := cfgOk_iff.1 h
  have s := slots_mono (a0 := a0) (a1 := a1) (by omega) (by omega) h0 h1
  obtain ⟨r0, _, r1, _⟩ := round_mono h h0 h1 h2 h3 h4 h5
  unfold markI
  exact timesI_mono (timesI_bd (by omega) (by omega)).1 r1 (timesI_mono (by omega) (by omega) (Int.le_refl _) (by omega)) r0
theorem cycleI_eq {a0 a1 a2 a3 a4 a5 k : Int} : cycleI a0 a1 a2 a3 a4 a5 k = min big (markI a0 a1 a2 a3 a4 a5 k + timesI (max 0 k) (cfgRest a0 a1 a2 a3 a5)) := by
  unfold cycleI
  generalize markI a0 a1 a2 a3 a4 a5 k = x
  generalize timesI (max 0 k) (cfgRest a0 a1 a2 a3 a5) = y
  split <;> omega
theorem cycleI_mono {a0 a1 a2 a3 a4 a5 a6 b0 b1 b2 b3 b4 b5 k : Int} (h : cfgOk a0 a1 a2 a3 a4 a5 a6 = true) (h0 : a0 ≤ b0) (h1 : a1 ≤ b1) (h2 : a2 ≤ b2) (h3 : a3 ≤ b3) (h4 : a4 ≤ b4) (h5 : a5 ≤ b5) :
    cycleI a0 a1 a2 a3 a4 a5 k ≤ cycleI b0 b1 b2 b3 b4 b5 k := by
  have m := markI_mono (k := k) h h0 h1 h2 h3 h4 h5
  obtain ⟨_, r0, _, r1⟩ := round_mono h h0 h1 h2 h3 h4 h5
  have t := timesI_mono (a := max 0 k) (c := max 0 k) (by omega) r1 (Int.le_refl _) r0
  rw [cycleI_eq, cycleI_eq]; omega
theorem cycle_mark {a0 a1 a2 a3 a4 a5 a6 k : Int} (h : cfgOk a0 a1 a2 a3 a4 a5 a6 = true) : markI a0 a1 a2 a3 a4 a5 k ≤ cycleI a0 a1 a2 a3 a4 a5 k := by
  have m := (markI_bd (k := k) h).2
  obtain ⟨_, _, _, r1⟩ := round_mono h (Int.le_refl _) (Int.le_refl _) (Int.le_refl _) (Int.le_refl _) (Int.le_refl _) (Int.le_refl _)
  have t := (timesI_bd (a := max 0 k) (by omega) r1).1
  rw [cycleI_eq]; omega

set_option maxHeartbeats 4000000 in
theorem law_ConfigBounds (c0 : Int) (_ : (Lit.int .i64 c0).wf = true) (c1 : Int) (_ : (Lit.int .i64 c1).wf = true) (c2 : Int) (_ : (Lit.int .i64 c2).wf = true) (c3 : Int) (_ : (Lit.int .i64 c3).wf = true) (c4 : Int) (_ : (Lit.int .i64 c4).wf = true) (c5 : Int) (_ : (Lit.int .i64 c5).wf = true) (c6 : Int) (_ : (Lit.int .i64 c6).wf = true) (k : Int) (hkw : (Lit.int .i64 k).wf = true) (w : World) (hLim : Limits w) :
    Calls Tryd.prog 13 #[.agg #[.int .i64 c0, .int .i64 c1, .int .i64 c2, .int .i64 c3, .int .i64 c4, .int .i64 c5, .int .i64 c6], .int .i64 k] w fun e w' => e = .returned (.bool true) ∧ Below w.heap.size w w' := by
  have HL := Lib.hid hLim
  have hk1 : Hid (k < 9223372036854775808) := by show k < 9223372036854775808; have := (bounds_i64 hkw).2; omega
  clear hLim hkw
  go_enter Tryd.func13, Tryd.ntmps13
  go_wp2_with fail
  obtain ⟨W, hW⟩ : ∃ W, W = w.alloc (Obj.cells (CfgRow c0 c1 c2 c3 c4 c5 c6) 32) := ⟨_, rfl⟩
  obtain ⟨b, hb⟩ : ∃ b, b = w.heap.size := ⟨_, rfl⟩
  rw [← hW, ← hb]
  have hr : W.heap[b]? = some (Obj.cells (CfgRow c0 c1 c2 c3 c4 c5 c6) 32) := by rw [hW, hb]; exact World.alloc_heap_new _ _
  have hTw : Touch nob w W := by rw [hW]; exact (Touch.refl _ _).alloc _
  have HLW := Lib.hid (HL.out.touch hTw (fun x => x))
  have HB := Lib.hid (fun w' ht => cfg_box hr (w' := w') ht)
  have HT := Lib.hid hTw
  obtain ⟨r0, r1, r2, r3, r4, r5, r6⟩ := cfg_box hr (Touch.refl _ _)
  have k0 := cell_regrown r0
  have k1 := cell_regrown r1
  have k2 := cell_regrown r2
  have k3 := cell_regrown r3
  have k4 := cell_regrown r4
  have k5 := cell_regrown r5
  have k6 := cell_regrown r6
  clear r0 r1 r2 r3 r4 r5 r6
  have lim : ∀ d os, Limits (grow (redrawn W d) os) := fun d os => HLW.out.touch (S := nob) (Touch.of_below (below_regrown W d os)) (fun x => x)
  have d1 := fun d os => Calls.regrown_of (config_Marking c0 c1 c2 c3 c4 c5 c6 k hk1 (grow (redrawn W d) os) (lim d os))
  have d2 := fun d os => Calls.regrown_of (config_Cycle c0 c1 c2 c3 c4 c5 c6 k hk1 (grow (redrawn W d) os) (lim d os))
  clear hW hb hr hTw lim
  refine wp_region_quiet_below (by kernel_rfl) (by kernel_rfl) ?_
  repeat (go_big_quiet_step (first | (go_at_call 51; exact d1 _ _) | (go_at_call 52; exact d2 _ _)))
  refine wpQuiet_nil ?_
  intro W2 hw'
  obtain ⟨⟨dq, osq⟩, hw''⟩ := hw'
  simp only at hw''
  have hT : Touch nob W W2 := by rw [hw'']; exact Touch.of_below (below_regrown W dq osq)
  clear hw'' d1 d2 k0 k1 k2 k3 k4 k5 k6
  obtain ⟨k0, k1, k2, k3, k4, k5, k6⟩ := HB.out _ hT
  cases hk : cfgOk c0 c1 c2 c3 c4 c5 c6
  · have HK := Lib.hid hk
    clear hk
    simp only [ifOk]
    go_wp2_with (first | (go_at_call 26; refine (ref02_Right c0 c1 c2 c3 c4 c5 c6 _).mono ?_; rintro e w1 ⟨rfl, hb1⟩; have hT1 := Touch.trans (S := nob) (by assumption) (Touch.of_below hb1); clear hb1; rw [HK.out]; obtain ⟨k0, k1, k2, k3, k4, k5, k6⟩ := HB.out _ hT1) | (go_at_call 33; refine (law02_awake _ (HLW.out.touch (S := nob) (by assumption) (fun x => x))).mono ?_; rintro e w1 ⟨rfl, hb1⟩; have hT1 := Touch.trans (S := nob) (by assumption) (Touch.of_below hb1); clear hb1))
    go_ret
    exact ⟨rfl, (Touch.trans HT.out (by assumption)).below⟩
  · have HK := Lib.hid hk
    clear hk
    simp only [ifOk]
    by_cases hk0 : k < 1
    · rw [markI_zero (by omega), cycleI_zero (by omega)]
      go_wp2_with (first | (go_at_call 26; refine (ref02_Right c0 c1 c2 c3 c4 c5 c6 _).mono ?_; rintro e w1 ⟨rfl, hb1⟩; have hT1 := Touch.trans (S := nob) (by assumption) (Touch.of_below hb1); clear hb1; rw [HK.out]; obtain ⟨k0, k1, k2, k3, k4, k5, k6⟩ := HB.out _ hT1) | (go_at_call 33; refine (law02_awake _ (HLW.out.touch (S := nob) (by assumption) (fun x => x))).mono ?_; rintro e w1 ⟨rfl, hb1⟩; have hT1 := Touch.trans (S := nob) (by assumption) (Touch.of_below hb1); clear hb1))
      go_ret
      exact ⟨rfl, (Touch.trans HT.out (by assumption)).below⟩
    · have CM := Lib.hid (fun w => ref02_Marking c0 c1 c2 c3 c4 c5 c6 k hk1 (by omega) HK.out w)
      have CC := Lib.hid (fun w => ref02_Cycle c0 c1 c2 c3 c4 c5 c6 k hk1 (by omega) HK.out w)
      obtain ⟨m, hm⟩ : ∃ m, markI c0 c1 c2 c3 c4 c5 k = m := ⟨_, rfl⟩
      obtain ⟨n, hn⟩ : ∃ m, cycleI c0 c1 c2 c3 c4 c5 k = m := ⟨_, rfl⟩
      rw [hm] at CM ⊢
      rw [hn] at CC ⊢
      clear hm hn
      go_wp2_with (first | (go_at_call 26; refine (ref02_Right c0 c1 c2 c3 c4 c5 c6 _).mono ?_; rintro e w1 ⟨rfl, hb1⟩; have hT1 := Touch.trans (S := nob) (by assumption) (Touch.of_below hb1); clear hb1; rw [HK.out]; obtain ⟨k0, k1, k2, k3, k4, k5, k6⟩ := HB.out _ hT1) | (go_at_call 53; refine (CM.out _).mono ?_; rintro e w1 ⟨rfl, hb1⟩; have hT1 := Touch.trans (S := nob) (by assumption) (Touch.of_below hb1); clear hb1; obtain ⟨k0, k1, k2, k3, k4, k5, k6⟩ := HB.out _ hT1) | (go_at_call 54; refine (CC.out _).mono ?_; rintro e w1 ⟨rfl, hb1⟩; have hT1 := Touch.trans (S := nob) (by assumption) (Touch.of_below hb1); clear hb1; obtain ⟨k0, k1, k2, k3, k4, k5, k6⟩ := HB.out _ hT1) | (go_at_call 33; refine (law02_awake _ (HLW.out.touch (S := nob) (by assumption) (fun x => x))).mono ?_; rintro e w1 ⟨rfl, hb1⟩; have hT1 := Touch.trans (S := nob) (by assumption) (Touch.of_below hb1); clear hb1))
      go_ret
      exact ⟨rfl, (Touch.trans HT.out (by assumption)).below⟩
end Go.Proofs.YtmonmiadcmffgaaDoor
