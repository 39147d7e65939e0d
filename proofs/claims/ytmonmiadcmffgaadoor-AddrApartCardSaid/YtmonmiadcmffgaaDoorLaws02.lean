/- The laws of configs, walked. Conditions: the table of limits reads as laid. -/
import Derived.Test.YtmonmiadcmffgaaDoorRef02
namespace Go.Proofs.YtmonmiadcmffgaaDoor
open Go.RowKit Go.Sort

/-- A config's box: seven cells. -/
abbrev CfgRow (c0 c1 c2 c3 c4 c5 c6 : Int) : Array Value := #[.int .i64 c0, .int .i64 c1, .int .i64 c2, .int .i64 c3, .int .i64 c4, .int .i64 c5, .int .i64 c6]
theorem cfg_box {W : World} {b : Nat} {t : TypeId} {c0 c1 c2 c3 c4 c5 c6 : Int} (h : W.heap[b]? = some (Obj.cells (CfgRow c0 c1 c2 c3 c4 c5 c6) t)) {w' : World} (ht : Touch nob W w') :
    w'.cell? ⟨b, 0, none⟩ = some (.int .i64 c0) ∧ w'.cell? ⟨b, 1, none⟩ = some (.int .i64 c1) ∧ w'.cell? ⟨b, 2, none⟩ = some (.int .i64 c2) ∧ w'.cell? ⟨b, 3, none⟩ = some (.int .i64 c3) ∧ w'.cell? ⟨b, 4, none⟩ = some (.int .i64 c4) ∧ w'.cell? ⟨b, 5, none⟩ = some (.int .i64 c5) ∧ w'.cell? ⟨b, 6, none⟩ = some (.int .i64 c6) := by
  have hb := (Array.getElem?_eq_some_iff.1 h).1
  have e := (ht.block b hb (fun x => x)).trans h
  simp [World.cell?, e]

set_option maxHeartbeats 1000000 in
theorem law02_awake (w : World) (hL : Limits w) :
    Calls Tryd.prog 33 #[] w fun e w' => e = .returned (.bool true) ∧ Below w.heap.size w w' := by
  have HL := Lib.hid hL
  clear hL
  go_enter Tryd.func33, Tryd.ntmps33
  go_wp2_with fail
  obtain ⟨W, hW⟩ : ∃ W, W = w.alloc (Obj.cells (CfgRow 2 16 1 1 0 1 1) 32) := ⟨_, rfl⟩
  obtain ⟨b, hb⟩ : ∃ b, b = w.heap.size := ⟨_, rfl⟩
  rw [← hW, ← hb]
  have hr : W.heap[b]? = some (Obj.cells (CfgRow 2 16 1 1 0 1 1) 32) := by rw [hW, hb]; exact World.alloc_heap_new _ _
  have hTw : Touch nob w W := by rw [hW]; exact (Touch.refl _ _).alloc _
  have HLW := Lib.hid (HL.out.touch hTw (fun x => x))
  have HB := Lib.hid (fun w' ht => cfg_box hr (w' := w') ht)
  have HT := Lib.hid hTw
  have hT := Touch.refl nob W
  have hk : cfgOk 2 16 1 1 0 1 1 = true := by decide
  have h1 : ifOk true (cfgWords 2 16) = 32 := by decide
  have h2 : ifOk true (cfgSlots 2 16) = 16 := by decide
  clear hW hb hr hTw
  go_wp2_with (first | (go_at_call 25; refine (config_Right 2 16 1 1 0 1 1 _ (HLW.out.touch (S := nob) (by assumption) (fun x => x))).mono ?_; rintro e w1 ⟨rfl, hb1⟩; have hT1 := Touch.trans (S := nob) (by assumption) (Touch.of_below hb1); clear hb1; rw [hk]; obtain ⟨k0, k1, k2, k3, k4, k5, k6⟩ := HB.out _ hT1) | (go_at_call 29; refine (config_Words 2 16 1 1 0 1 1 _ (HLW.out.touch (S := nob) (by assumption) (fun x => x))).mono ?_; rintro e w1 ⟨rfl, hb1⟩; have hT1 := Touch.trans (S := nob) (by assumption) (Touch.of_below hb1); clear hb1; rw [hk, h1]; obtain ⟨k0, k1, k2, k3, k4, k5, k6⟩ := HB.out _ hT1) | (go_at_call 30; refine (config_Slots 2 16 1 1 0 1 1 _ (HLW.out.touch (S := nob) (by assumption) (fun x => x))).mono ?_; rintro e w1 ⟨rfl, hb1⟩; have hT1 := Touch.trans (S := nob) (by assumption) (Touch.of_below hb1); clear hb1; rw [hk, h2]; obtain ⟨k0, k1, k2, k3, k4, k5, k6⟩ := HB.out _ hT1))
  go_ret
  exact ⟨rfl, (Touch.trans HT.out (by assumption)).below⟩

set_option maxHeartbeats 4000000 in
theorem law_ConfigRight (c0 : Int) (_ : (Lit.int .i64 c0).wf = true) (c1 : Int) (_ : (Lit.int .i64 c1).wf = true) (c2 : Int) (_ : (Lit.int .i64 c2).wf = true) (c3 : Int) (_ : (Lit.int .i64 c3).wf = true) (c4 : Int) (_ : (Lit.int .i64 c4).wf = true) (c5 : Int) (_ : (Lit.int .i64 c5).wf = true) (c6 : Int) (_ : (Lit.int .i64 c6).wf = true) (w : World) (hLim : Limits w) :
    Calls Tryd.prog 6 #[.agg #[.int .i64 c0, .int .i64 c1, .int .i64 c2, .int .i64 c3, .int .i64 c4, .int .i64 c5, .int .i64 c6]] w fun e w' => e = .returned (.bool true) ∧ Below w.heap.size w w' := by
  have HL := Lib.hid hLim
  clear hLim
  go_enter Tryd.func6, Tryd.ntmps6
  go_wp2_with fail
  obtain ⟨W, hW⟩ : ∃ W, W = w.alloc (Obj.cells (CfgRow c0 c1 c2 c3 c4 c5 c6) 32) := ⟨_, rfl⟩
  obtain ⟨b, hb⟩ : ∃ b, b = w.heap.size := ⟨_, rfl⟩
  rw [← hW, ← hb]
  have hr : W.heap[b]? = some (Obj.cells (CfgRow c0 c1 c2 c3 c4 c5 c6) 32) := by rw [hW, hb]; exact World.alloc_heap_new _ _
  have hTw : Touch nob w W := by rw [hW]; exact (Touch.refl _ _).alloc _
  have HLW := Lib.hid (HL.out.touch hTw (fun x => x))
  have HB := Lib.hid (fun w' ht => cfg_box hr (w' := w') ht)
  have HT := Lib.hid hTw
  obtain ⟨r0, r1, r2, r3, r4, r5, r6⟩ := cfg_box hr (Touch.refl _ _)
  have k0 := cell_regrown r0
  have k1 := cell_regrown r1
  have k2 := cell_regrown r2
  have k3 := cell_regrown r3
  have k4 := cell_regrown r4
  have k5 := cell_regrown r5
  have k6 := cell_regrown r6
  clear r0 r1 r2 r3 r4 r5 r6
  have lim : ∀ d os, Limits (grow (redrawn W d) os) := fun d os => HLW.out.touch (S := nob) (Touch.of_below (below_regrown W d os)) (fun x => x)
  have d1 := fun d os => Calls.regrown_of (config_Right c0 c1 c2 c3 c4 c5 c6 (grow (redrawn W d) os) (lim d os))
  have d2 := fun d os => Calls.regrown_of (ref02_Right c0 c1 c2 c3 c4 c5 c6 (grow (redrawn W d) os))
  have d3 := fun d os => Calls.regrown_of (config_Clamp c0 c1 c2 c3 c4 c5 c6 (grow (redrawn W d) os) (lim d os))
  have d4 := fun d os => Calls.regrown_of (ref02_Clamp c0 c1 c2 c3 c4 c5 c6 (grow (redrawn W d) os))
  have hN : ∀ w, (binOp .neq 32 (.agg #[.int .i64 (clampI 1 4096 c0), .int .i64 (clampI 16 256 c1), .int .i64 (clampI 1 8 c2), .int .i64 (clampI 1 64 c3), .int .i64 (clampI 0 64 c4), .int .i64 (clampI 1 256 c5), .int .i64 (clampI 1 4096 c6)]) (.agg #[.int .i64 (clampI 1 4096 c0), .int .i64 (clampI 16 256 c1), .int .i64 (clampI 1 8 c2), .int .i64 (clampI 1 64 c3), .int .i64 (clampI 0 64 c4), .int .i64 (clampI 1 256 c5), .int .i64 (clampI 1 4096 c6)])).run Tryd.prog w = .ok (.bool false) w := fun w => by
    rw [run_cfg_neq, cfgSame_self]; rfl
  clear hW hb hr hTw
  have HLIM := Lib.hid lim
  clear lim
  refine wp_region_quiet_below (by kernel_rfl) (by kernel_rfl) ?_
  repeat (quiet_step (first | exact d1 _ _ | exact d2 _ _ | exact d3 _ _ | exact d4 _ _))
  refine wpQuiet_nil ?_
  intro _ hw'
  obtain ⟨⟨dq, osq⟩, hw''⟩ := hw'
  obtain ⟨W2, hW2⟩ : ∃ W2, W2 = grow (redrawn W dq) osq := ⟨_, rfl⟩
  simp only at hw''
  rw [← hW2] at hw''
  have hT : Touch nob W W2 := by rw [hW2]; exact Touch.of_below (below_regrown W dq osq)
  subst hw''
  clear hW2 d1 d2 d3 d4 k0 k1 k2 k3 k4 k5 k6 hN HLIM
  obtain ⟨k0, k1, k2, k3, k4, k5, k6⟩ := HB.out _ hT
  cases hk : cfgOk c0 c1 c2 c3 c4 c5 c6
  · have HK := Lib.hid hk
    clear hk
    go_wp2_with (first | (go_at_call 26; refine (ref02_Right c0 c1 c2 c3 c4 c5 c6 _).mono ?_; rintro e w1 ⟨rfl, hb1⟩; have hT1 := Touch.trans (S := nob) (by assumption) (Touch.of_below hb1); clear hb1; rw [HK.out]; obtain ⟨k0, k1, k2, k3, k4, k5, k6⟩ := HB.out _ hT1) | (go_at_call 29; refine (config_Words c0 c1 c2 c3 c4 c5 c6 _ (HLW.out.touch (S := nob) (by assumption) (fun x => x))).mono ?_; rintro e w1 ⟨rfl, hb1⟩; have hT1 := Touch.trans (S := nob) (by assumption) (Touch.of_below hb1); clear hb1; rw [HK.out]; obtain ⟨k0, k1, k2, k3, k4, k5, k6⟩ := HB.out _ hT1) | (go_at_call 30; refine (config_Slots c0 c1 c2 c3 c4 c5 c6 _ (HLW.out.touch (S := nob) (by assumption) (fun x => x))).mono ?_; rintro e w1 ⟨rfl, hb1⟩; have hT1 := Touch.trans (S := nob) (by assumption) (Touch.of_below hb1); clear hb1; rw [HK.out]; obtain ⟨k0, k1, k2, k3, k4, k5, k6⟩ := HB.out _ hT1) | (go_at_call 31; refine (config_OpPicks c0 c1 c2 c3 c4 c5 c6 _ (HLW.out.touch (S := nob) (by assumption) (fun x => x))).mono ?_; rintro e w1 ⟨rfl, hb1⟩; have hT1 := Touch.trans (S := nob) (by assumption) (Touch.of_below hb1); clear hb1; rw [HK.out]; obtain ⟨k0, k1, k2, k3, k4, k5, k6⟩ := HB.out _ hT1) | (go_at_call 32; refine (config_AnswerPicks c0 c1 c2 c3 c4 c5 c6 _ (HLW.out.touch (S := nob) (by assumption) (fun x => x))).mono ?_; rintro e w1 ⟨rfl, hb1⟩; have hT1 := Touch.trans (S := nob) (by assumption) (Touch.of_below hb1); clear hb1; rw [HK.out]; obtain ⟨k0, k1, k2, k3, k4, k5, k6⟩ := HB.out _ hT1) | (go_at_call 33; refine (law02_awake _ (HLW.out.touch (S := nob) (by assumption) (fun x => x))).mono ?_; rintro e w1 ⟨rfl, hb1⟩; have hT1 := Touch.trans (S := nob) (by assumption) (Touch.of_below hb1); clear hb1))
    go_ret
    exact ⟨rfl, (Touch.trans HT.out (by assumption)).below⟩
  · have HK := Lib.hid hk
    obtain ⟨⟨u0, v0⟩, ⟨u1, v1⟩, ⟨u2, v2⟩, ⟨u3, v3⟩, ⟨u4, v4⟩, ⟨u5, v5⟩, u6, v6⟩ := cfgOk_iff.1 hk
    clear hk
    have ⟨m0, m1⟩ := mul_bd (a := c0) (b := c1) (A := 4096) (B := 256) (by omega) (by omega) (by omega) (by omega)
    go_wp2_with (first | (go_at_call 26; refine (ref02_Right c0 c1 c2 c3 c4 c5 c6 _).mono ?_; rintro e w3 ⟨rfl, hb1⟩; rw [HK.out]; have hT3 := Touch.trans (S := nob) hT (Touch.of_below hb1); clear hb1))
    clear k0 k1 k2 k3 k4 k5 k6
    obtain ⟨r0, r1, r2, r3, r4, r5, r6⟩ := HB.out _ hT3
    have k0 := cell_regrown r0
    have k1 := cell_regrown r1
    have k2 := cell_regrown r2
    have k3 := cell_regrown r3
    have k4 := cell_regrown r4
    have k5 := cell_regrown r5
    have k6 := cell_regrown r6
    clear r0 r1 r2 r3 r4 r5 r6
    have lim : ∀ d os, Limits (grow (redrawn w3 d) os) := fun d os => HLW.out.touch (S := nob) (hT3.trans (Touch.of_below (below_regrown w3 d os))) (fun x => x)
    have d1 := fun d os => Calls.regrown_of (config_Words c0 c1 c2 c3 c4 c5 c6 (grow (redrawn w3 d) os) (lim d os))
    have d2 := fun d os => Calls.regrown_of (config_Slots c0 c1 c2 c3 c4 c5 c6 (grow (redrawn w3 d) os) (lim d os))
    have d3 := fun d os => Calls.regrown_of (config_OpPicks c0 c1 c2 c3 c4 c5 c6 (grow (redrawn w3 d) os) (lim d os))
    have d4 := fun d os => Calls.regrown_of (config_AnswerPicks c0 c1 c2 c3 c4 c5 c6 (grow (redrawn w3 d) os) (lim d os))
    have d5 := fun d os => Calls.regrown_of (ref02_Slots c0 c1 c2 c3 c4 c5 c6 HK.out (grow (redrawn w3 d) os))
    have d6 := fun d os => Calls.regrown_of (ref02_Op c0 c1 c2 c3 c4 c5 c6 HK.out (grow (redrawn w3 d) os))
    have d7 := fun d os => Calls.regrown_of (ref02_Answer c0 c1 c2 c3 c4 c5 c6 HK.out (grow (redrawn w3 d) os))
    have d8 := fun d os => Calls.regrown_of (law02_awake (grow (redrawn w3 d) os) (lim d os))
    rw [HK.out] at d1 d2 d3 d4
    simp only [ifOk] at d1 d2 d3 d4
    simp only [cfgWords] at d1
    have hw1 : IntKind.i64.wrap (c0 * c1) = c0 * c1 := IntWalk.i64_in _ (by omega)
    clear lim
    refine wp_region_quiet_below (by kernel_rfl) (by kernel_rfl) ?_
    repeat (quiet_step (first | exact d1 _ _ | exact d2 _ _ | exact d3 _ _ | exact d4 _ _ | exact d5 _ _ | exact d6 _ _ | exact d7 _ _ | exact d8 _ _))
    refine wpQuiet_nil ?_
    intro _ hw'
    obtain ⟨⟨dr, osr⟩, hw''⟩ := hw'
    subst hw''
    go_wp2
    go_ret
    exact ⟨rfl, (Touch.trans HT.out (hT3.trans (Touch.of_below (below_regrown w3 dr osr)))).below⟩
end Go.Proofs.YtmonmiadcmffgaaDoor
