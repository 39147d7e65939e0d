/- The bounds of picks: the program's Cycle, the document's Marking and Cycle, walked. Conditions: the table of limits reads as laid. -/
import Derived.Test.YtmonmiadcmffgaaDoorMarking
namespace Go.Proofs.YtmonmiadcmffgaaDoor
open Go.RowKit Go.Sort

set_option maxHeartbeats 1000000 in
theorem config_Cycle (c0 c1 c2 c3 c4 c5 c6 k : Int) (hk1 : Hid (k < 9223372036854775808)) (w : World) (hL : Limits w) :
    Calls Tryd.prog 52 #[.agg #[.int .i64 c0, .int .i64 c1, .int .i64 c2, .int .i64 c3, .int .i64 c4, .int .i64 c5, .int .i64 c6], .int .i64 k] w fun e w' => e = .returned (.int .i64 (ifOk (cfgOk c0 c1 c2 c3 c4 c5 c6) (cycleI c0 c1 c2 c3 c4 c5 k))) ∧ Below w.heap.size w w' := by
  have HL := Lib.hid hL
  have hmf : ∀ (fn : Fn) (first cap : Array Value) (w : World), (Instr.makeFunc fn first cap).run Tryd.prog w = .ok (.func fn first cap) w := fun _ _ _ _ => rfl
  clear hL
  cases hk : cfgOk c0 c1 c2 c3 c4 c5 c6
  · have HK := Lib.hid hk
    clear hk
    go_enter Tryd.func52, Tryd.ntmps52
    go_wp2_with (first | (go_at_call 25; refine (config_Right c0 c1 c2 c3 c4 c5 c6 _ (HL.out.touch (S := nob) (by repeat (first | with_reducible exact Touch.refl _ _ | with_reducible assumption | with_reducible apply Touch.alloc | with_reducible apply Touch.drewN | with_reducible apply Touch.drew | with_reducible refine Touch.setCell ?_ (.inr (by first | omega | (simp; done) | (simp; omega))) _)) (fun x => x))).mono ?_; rintro e w1 ⟨rfl, hb⟩; rw [HK.out]) | (go_at_call 61; go_in))
    go_ret
    exact ⟨rfl, Touch.below (Touch.trans (by repeat (first | with_reducible exact Touch.refl _ _ | with_reducible assumption | with_reducible apply Touch.alloc | with_reducible apply Touch.drewN | with_reducible apply Touch.drew | with_reducible refine Touch.setCell ?_ (.inr (by first | omega | (simp; done) | (simp; omega))) _)) (Touch.of_below hb))⟩
  · have HK := Lib.hid hk
    obtain ⟨a0, a1, _⟩ := alloc3 w (Obj.cells (CfgRow c0 c1 c2 c3 c4 c5 c6) 32) (Obj.cells #[.int .i64 k] 3) (Obj.cells (CfgRow c0 c1 c2 c3 c4 c5 c6) 32)
    have A0 := Lib.hid a0
    have A1 := Lib.hid a1
    clear hk a0 a1
    go_enter Tryd.func52, Tryd.ntmps52
    go_wp2_with (first | (go_at_call 25; refine (config_Right c0 c1 c2 c3 c4 c5 c6 _ (HL.out.touch (S := nob) (by repeat (first | with_reducible exact Touch.refl _ _ | with_reducible assumption | with_reducible apply Touch.alloc | with_reducible apply Touch.drewN | with_reducible apply Touch.drew | with_reducible refine Touch.setCell ?_ (.inr (by first | omega | (simp; done) | (simp; omega))) _)) (fun x => x))).mono ?_; rintro e w1 ⟨rfl, hb⟩; rw [HK.out]) | (go_at_call 61; go_in) | (go_at_call 73; refine (config_Cycle1 c0 c1 c2 c3 c4 c5 c6 k hk1 HK.out w1 (HL.out.touch (S := nob) (Touch.trans (by repeat (first | with_reducible exact Touch.refl _ _ | with_reducible assumption | with_reducible apply Touch.alloc | with_reducible apply Touch.drewN | with_reducible apply Touch.drew | with_reducible refine Touch.setCell ?_ (.inr (by first | omega | (simp; done) | (simp; omega))) _)) (Touch.of_below hb)) (fun x => x)) _ _ ((hb.block w.heap.size (by simp only [World.size_alloc]; omega)).trans A0.out) ((hb.block (w.heap.size + 1) (by simp only [World.size_alloc]; omega)).trans A1.out)).mono ?_; rintro e w2 ⟨rfl, hb2⟩))
    go_ret
    exact ⟨rfl, Touch.below (Touch.trans (Touch.trans (by repeat (first | with_reducible exact Touch.refl _ _ | with_reducible assumption | with_reducible apply Touch.alloc | with_reducible apply Touch.drewN | with_reducible apply Touch.drew | with_reducible refine Touch.setCell ?_ (.inr (by first | omega | (simp; done) | (simp; omega))) _)) (Touch.of_below hb)) (Touch.of_below hb2))⟩

set_option maxHeartbeats 1000000 in
theorem ref02_Marking (c0 c1 c2 c3 c4 c5 c6 k : Int) (hk1 : Hid (k < 9223372036854775808)) (h0k : 0 ≤ k) (hk : cfgOk c0 c1 c2 c3 c4 c5 c6 = true) (w : World) :
    Calls Tryd.prog 53 #[.agg #[.int .i64 c0, .int .i64 c1, .int .i64 c2, .int .i64 c3, .int .i64 c4, .int .i64 c5, .int .i64 c6], .int .i64 k] w fun e w' => e = .returned (.int .i64 (markI c0 c1 c2 c3 c4 c5 k)) ∧ Below w.heap.size w w' := by
  obtain ⟨⟨n0, n1⟩, ⟨o0, o1⟩, ⟨a0, a1⟩, ⟨p0, p1⟩, _⟩ := cfg_bd hk
  obtain ⟨⟨u0, v0⟩, ⟨u1, v1⟩, ⟨u2, v2⟩, ⟨u3, v3⟩, ⟨u4, v4⟩, ⟨u5, v5⟩, u6, v6⟩ := cfgOk_iff.1 hk
  have HM : Hid (markI c0 c1 c2 c3 c4 c5 k = timesI (timesI (max 0 k) (2 * cfgSlots c0 c1 + 6)) (40 * cfgSlots c0 c1 + 2 * c2 * (c5 + 4) + 2 * c4 + cfgOp c1 c5 + cfgAnswer c3 c5 + 40)) := rfl
  obtain ⟨n, hn⟩ : ∃ n, cfgSlots c0 c1 = n := ⟨_, rfl⟩
  obtain ⟨o, ho⟩ : ∃ n, cfgOp c1 c5 = n := ⟨_, rfl⟩
  obtain ⟨a, ha⟩ : ∃ n, cfgAnswer c3 c5 = n := ⟨_, rfl⟩
  obtain ⟨p, hp⟩ : ∃ n, 2 * c2 * (c5 + 4) = n := ⟨_, rfl⟩
  rw [hn] at n0 n1; rw [ho] at o0 o1; rw [ha] at a0 a1; rw [hp] at p0 p1
  rw [hn, ho, ha, hp] at HM
  have q : IntKind.i64.wrap (2 * c2 * (c5 + 4)) = p := by rw [hp]; exact IntWalk.i64_in _ (by omega)
  have CS := Lib.hid (fun w => ref02_Slots c0 c1 c2 c3 c4 c5 c6 hk w)
  have CO := Lib.hid (fun w => ref02_Op c0 c1 c2 c3 c4 c5 c6 hk w)
  have CA := Lib.hid (fun w => ref02_Answer c0 c1 c2 c3 c4 c5 c6 hk w)
  rw [hn] at CS; rw [ho] at CO; rw [ha] at CA
  obtain ⟨m, hm⟩ : ∃ m, max 0 k = m := ⟨_, rfl⟩
  have M0 : 0 ≤ m := by omega
  have t0 := timesI_bd (a := m) (b := 2 * n + 6) M0 (by omega)
  rw [hm] at HM
  have HT0 : Hid (timesI m (2 * n + 6) < 9223372036854775808) := by show timesI _ _ < _; have := t0.2; unfold big at this; omega
  have HT1 : Hid (m < 9223372036854775808) := by show m < _; have := hk1.out; omega
  obtain rfl : m = k := by omega
  have HT2 : Hid (2 * n + 6 < 9223372036854775808) := by show 2 * n + 6 < _; omega
  have HT3 : Hid (40 * n + p + 2 * c4 + o + a + 40 < 9223372036854775808) := by show 40 * n + p + 2 * c4 + o + a + 40 < _; omega
  have t00 := t0.1
  clear t0 hk hn ho ha hp hm
  clear h0k
  go_enter Tryd.func53, Tryd.ntmps53
  go_wp2_with fail
  obtain ⟨W, hW⟩ : ∃ W, W = w.alloc (Obj.cells (CfgRow c0 c1 c2 c3 c4 c5 c6) 32) := ⟨_, rfl⟩
  obtain ⟨b, hb⟩ : ∃ b, b = w.heap.size := ⟨_, rfl⟩
  rw [← hW, ← hb]
  have hr : W.heap[b]? = some (Obj.cells (CfgRow c0 c1 c2 c3 c4 c5 c6) 32) := by rw [hW, hb]; exact World.alloc_heap_new _ _
  have HTw : Hid (Touch nob w W) := by show Touch nob w W; rw [hW]; exact (Touch.refl _ _).alloc _
  have HB := Lib.hid (fun w' ht => cfg_box hr (w' := w') ht)
  have hT := Touch.refl nob W
  obtain ⟨k0, k1, k2, k3, k4, k5, k6⟩ := HB.out _ hT
  clear hW hb hr
  go_wp2_with (go_at_call 34; refine (CS.out _).mono ?_; rintro e w3 ⟨rfl, hb1⟩; have hT3 := Touch.trans (S := nob) hT (Touch.of_below hb1); clear hb1)
  clear k0 k1 k2 k3 k4 k5 k6
  obtain ⟨r0, r1, r2, r3, r4, r5, r6⟩ := HB.out _ hT3
  have k0 := cell_regrown r0
  have k1 := cell_regrown r1
  have k2 := cell_regrown r2
  have k3 := cell_regrown r3
  have k4 := cell_regrown r4
  have k5 := cell_regrown r5
  have k6 := cell_regrown r6
  clear r0 r1 r2 r3 r4 r5 r6
  have d3 := fun d os => Calls.regrown_of (CO.out (grow (redrawn w3 d) os))
  have d4 := fun d os => Calls.regrown_of (CA.out (grow (redrawn w3 d) os))
  obtain ⟨y, hy⟩ : ∃ y, timesI m (2 * n + 6) = y := ⟨_, rfl⟩
  rw [hy] at HM HT0 t00
  have d5 : ∀ d os, Calls Tryd.prog 74 #[.int .i64 m, .int .i64 (2 * n + 6)] (grow (redrawn w3 d) os) fun e w'' => e = .returned (.int .i64 y) ∧ ∃ p : Regrown, w'' = grow (redrawn w3 p.d) p.os := fun d os =>
    (ref02_times m (2 * n + 6) M0 HT1 (by omega) (grow (redrawn w3 d) os)).mono (fun _ _ h => ⟨h.1.trans (by rw [hy]), ⟨⟨d, os⟩, h.2.symm⟩⟩)
  have d6 : ∀ d os, Calls Tryd.prog 74 #[.int .i64 y, .int .i64 (40 * n + p + 2 * c4 + o + a + 40)] (grow (redrawn w3 d) os) fun e w'' => e = .returned (.int .i64 (timesI y (40 * n + p + 2 * c4 + o + a + 40))) ∧ ∃ p : Regrown, w'' = grow (redrawn w3 p.d) p.os := fun d os =>
    (ref02_times y (40 * n + p + 2 * c4 + o + a + 40) t00 HT0 (by omega) (grow (redrawn w3 d) os)).mono (fun _ _ h => ⟨h.1, ⟨⟨d, os⟩, h.2.symm⟩⟩)
  clear hy
  refine wp_region_quiet_below (by kernel_rfl) (by kernel_rfl) ?_
  repeat (go_big_quiet_step (first | (go_at_call 35; exact d3 _ _) | (go_at_call 36; exact d4 _ _) | (with_reducible exact d5 _ _) | (with_reducible exact d6 _ _)))
  refine wpQuiet_nil ?_
  intro W2 hw'
  obtain ⟨⟨dq, osq⟩, hw''⟩ := hw'
  simp only at hw''
  have hT2 : Touch nob W W2 := hT3.trans (by rw [hw'']; exact Touch.of_below (below_regrown w3 dq osq))
  clear hw'' d3 d4 d5 d6 k0 k1 k2 k3 k4 k5 k6
  go_wp2
  go_ret
  exact ⟨ret_int HM.out.symm, (HTw.out.trans hT2).below⟩

set_option maxHeartbeats 1000000 in
theorem ref02_Cycle (c0 c1 c2 c3 c4 c5 c6 k : Int) (hk1 : Hid (k < 9223372036854775808)) (h0k : 0 ≤ k) (hk : cfgOk c0 c1 c2 c3 c4 c5 c6 = true) (w : World) :
    Calls Tryd.prog 54 #[.agg #[.int .i64 c0, .int .i64 c1, .int .i64 c2, .int .i64 c3, .int .i64 c4, .int .i64 c5, .int .i64 c6], .int .i64 k] w fun e w' => e = .returned (.int .i64 (cycleI c0 c1 c2 c3 c4 c5 k)) ∧ Below w.heap.size w w' := by
  obtain ⟨_, ⟨o0, o1⟩, ⟨a0, a1⟩, _, p0, p1⟩ := cfg_bd hk
  obtain ⟨⟨u0, v0⟩, ⟨u1, v1⟩, ⟨u2, v2⟩, ⟨u3, v3⟩, ⟨u4, v4⟩, ⟨u5, v5⟩, u6, v6⟩ := cfgOk_iff.1 hk
  have HM : Hid (cycleI c0 c1 c2 c3 c4 c5 k = if markI c0 c1 c2 c3 c4 c5 k > 4611686018427387904 - timesI (max 0 k) (2 * c0 * (c1 + 8) + 3 * cfgOp c1 c5 + 2 * cfgAnswer c3 c5 + 4 * c2 + 60) then 4611686018427387904 else markI c0 c1 c2 c3 c4 c5 k + timesI (max 0 k) (2 * c0 * (c1 + 8) + 3 * cfgOp c1 c5 + 2 * cfgAnswer c3 c5 + 4 * c2 + 60)) := rfl
  obtain ⟨o, ho⟩ : ∃ n, cfgOp c1 c5 = n := ⟨_, rfl⟩
  obtain ⟨a, ha⟩ : ∃ n, cfgAnswer c3 c5 = n := ⟨_, rfl⟩
  obtain ⟨p, hp⟩ : ∃ n, 2 * c0 * (c1 + 8) = n := ⟨_, rfl⟩
  rw [ho] at o0 o1; rw [ha] at a0 a1; rw [hp] at p0 p1
  rw [ho, ha, hp] at HM
  have q : IntKind.i64.wrap (2 * c0 * (c1 + 8)) = p := by rw [hp]; exact IntWalk.i64_in _ (by omega)
  have CM := Lib.hid (fun w => ref02_Marking c0 c1 c2 c3 c4 c5 c6 k hk1 h0k hk w)
  have CO := Lib.hid (fun w => ref02_Op c0 c1 c2 c3 c4 c5 c6 hk w)
  have CA := Lib.hid (fun w => ref02_Answer c0 c1 c2 c3 c4 c5 c6 hk w)
  rw [ho] at CO; rw [ha] at CA
  have mb := markI_bd (k := k) hk
  obtain ⟨m, hm⟩ : ∃ m, max 0 k = m := ⟨_, rfl⟩
  have M0 : 0 ≤ m := by omega
  obtain ⟨x, hx⟩ : ∃ x, markI c0 c1 c2 c3 c4 c5 k = x := ⟨_, rfl⟩
  rw [hx] at mb HM CM
  rw [hm] at HM
  obtain ⟨r, hr⟩ : ∃ r, 2 * c0 * (c1 + 8) + 3 * o + 2 * a + 4 * c2 + 60 = r := ⟨_, rfl⟩
  have yb := timesI_bd (a := m) (b := p + 3 * o + 2 * a + 4 * c2 + 60) M0 (by omega)
  obtain ⟨y, hy⟩ : ∃ y, timesI m (p + 3 * o + 2 * a + 4 * c2 + 60) = y := ⟨_, rfl⟩
  rw [hy] at yb HM
  have HT1 : Hid (m < 9223372036854775808) := by show m < _; have := hk1.out; omega
  have HT3 : Hid (p + 3 * o + 2 * a + 4 * c2 + 60 < 9223372036854775808) := by show p + 3 * o + 2 * a + 4 * c2 + 60 < _; omega
  obtain rfl : m = k := by omega
  have HY := Lib.hid hy
  obtain ⟨mb0, mb1⟩ := mb
  obtain ⟨yb0, yb1⟩ := yb
  unfold big at mb1 yb1
  clear hk ho ha hp hm hx hr r hy
  clear h0k
  go_enter Tryd.func54, Tryd.ntmps54
  go_wp2_with fail
  obtain ⟨W, hW⟩ : ∃ W, W = w.alloc (Obj.cells (CfgRow c0 c1 c2 c3 c4 c5 c6) 32) := ⟨_, rfl⟩
  obtain ⟨b, hb⟩ : ∃ b, b = w.heap.size := ⟨_, rfl⟩
  rw [← hW, ← hb]
  have hr : W.heap[b]? = some (Obj.cells (CfgRow c0 c1 c2 c3 c4 c5 c6) 32) := by rw [hW, hb]; exact World.alloc_heap_new _ _
  have HTw : Hid (Touch nob w W) := by show Touch nob w W; rw [hW]; exact (Touch.refl _ _).alloc _
  have HB := Lib.hid (fun w' ht => cfg_box hr (w' := w') ht)
  have hT := Touch.refl nob W
  obtain ⟨k0, k1, k2, k3, k4, k5, k6⟩ := HB.out _ hT
  clear hW hb hr
  clear k0 k1 k2 k3 k4 k5 k6
  obtain ⟨r0, r1, r2, r3, r4, r5, r6⟩ := HB.out _ hT
  have k0 := cell_regrown r0
  have k1 := cell_regrown r1
  have k2 := cell_regrown r2
  have k3 := cell_regrown r3
  have k4 := cell_regrown r4
  have k5 := cell_regrown r5
  have k6 := cell_regrown r6
  clear r0 r1 r2 r3 r4 r5 r6
  have d3 := fun d os => Calls.regrown_of (CO.out (grow (redrawn W d) os))
  have d4 := fun d os => Calls.regrown_of (CA.out (grow (redrawn W d) os))
  have d5 := fun d os => Calls.regrown_of (CM.out (grow (redrawn W d) os))
  have d6 : ∀ d os, Calls Tryd.prog 74 #[.int .i64 m, .int .i64 (p + 3 * o + 2 * a + 4 * c2 + 60)] (grow (redrawn W d) os) fun e w'' => e = .returned (.int .i64 y) ∧ ∃ p : Regrown, w'' = grow (redrawn W p.d) p.os := fun d os =>
    (ref02_times m (p + 3 * o + 2 * a + 4 * c2 + 60) M0 HT1 (by omega) (grow (redrawn W d) os)).mono (fun _ _ h => ⟨h.1.trans (by rw [HY.out]), ⟨⟨d, os⟩, h.2.symm⟩⟩)
  have wx : IntKind.i64.wrap (4611686018427387904 - y) = 4611686018427387904 - y := by rw [IntKind.wrap_i64]; omega
  refine wp_region_quiet_below (by kernel_rfl) (by kernel_rfl) ?_
  repeat (go_big_quiet_step (first | (go_at_call 35; exact d3 _ _) | (go_at_call 36; exact d4 _ _) | (go_at_call 53; exact d5 _ _) | (go_at_call 74; exact d6 _ _)))
  refine wpQuiet_nil ?_
  intro W2 hw'
  obtain ⟨⟨dq, osq⟩, hw''⟩ := hw'
  simp only at hw''
  have hT2 : Touch nob W W2 := by rw [hw'']; exact Touch.of_below (below_regrown W dq osq)
  clear hw'' d3 d4 d5 d6 k0 k1 k2 k3 k4 k5 k6
  by_cases hc : 4611686018427387904 - y < x
  · rw [if_pos hc] at HM
    go_wp2
    go_ret
    exact ⟨ret_int HM.out.symm, (HTw.out.trans hT2).below⟩
  · rw [if_neg hc] at HM
    have wy : IntKind.i64.wrap (x + y) = x + y := by rw [IntKind.wrap_i64]; omega
    go_wp2
    go_ret
    exact ⟨ret_int HM.out.symm, (HTw.out.trans hT2).below⟩
end Go.Proofs.YtmonmiadcmffgaaDoor
