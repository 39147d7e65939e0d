/- The law that a greater config takes as much at least, walked. Conditions: the table of limits reads as laid. -/
import Derived.Test.YtmonmiadcmffgaaDoorLaws02b
import Derived.Deep.Cut
namespace Go.Proofs.YtmonmiadcmffgaaDoor
open Go.RowKit Go.Sort

abbrev set7 (W : World) (b : Nat) (v0 v1 v2 v3 v4 v5 v6 : Value) : World := ((((((W.setCell ⟨b, 0, none⟩ v0).setCell ⟨b, 1, none⟩ v1).setCell ⟨b, 2, none⟩ v2).setCell ⟨b, 3, none⟩ v3).setCell ⟨b, 4, none⟩ v4).setCell ⟨b, 5, none⟩ v5).setCell ⟨b, 6, none⟩ v6
theorem set7_at (W : World) {b : Nat} {t : TypeId} {o0 o1 o2 o3 o4 o5 o6 : Value} (v0 v1 v2 v3 v4 v5 v6 : Value) (h : W.heap[b]? = some (Obj.cells #[o0, o1, o2, o3, o4, o5, o6] t)) : (set7 W b v0 v1 v2 v3 v4 v5 v6).heap[b]? = some (Obj.cells #[v0, v1, v2, v3, v4, v5, v6] t) := by
  have h6 := set_cells 6 v6 (set_cells 5 v5 (set_cells 4 v4 (set_cells 3 v3 (set_cells 2 v2 (set_cells 1 v1 (set_cells 0 v0 h))))))
  rw [show ((((((#[o0, o1, o2, o3, o4, o5, o6].setIfInBounds 0 v0).setIfInBounds 1 v1).setIfInBounds 2 v2).setIfInBounds 3 v3).setIfInBounds 4 v4).setIfInBounds 5 v5).setIfInBounds 6 v6 = #[v0, v1, v2, v3, v4, v5, v6] by simp] at h6
  exact h6
theorem set7_other (W : World) {b c : Nat} (v0 v1 v2 v3 v4 v5 v6 : Value) (h : c ≠ b) : (set7 W b v0 v1 v2 v3 v4 v5 v6).heap[c]? = W.heap[c]? :=
  (set_other _ h).trans ((set_other _ h).trans ((set_other _ h).trans ((set_other _ h).trans ((set_other _ h).trans ((set_other _ h).trans (set_other _ h))))))
theorem set7_touch {S : Nat → Prop} {w W : World} {b : Nat} (v0 v1 v2 v3 v4 v5 v6 : Value) (hb : w.heap.size ≤ b) (h : Touch S w W) : Touch S w (set7 W b v0 v1 v2 v3 v4 v5 v6) :=
  ((((((h.setCell (.inr hb) _).setCell (.inr hb) _).setCell (.inr hb) _).setCell (.inr hb) _).setCell (.inr hb) _).setCell (.inr hb) _).setCell (.inr hb) _

theorem clamp_ok (c0 c1 c2 c3 c4 c5 c6 : Int) : cfgOk (clampI 1 4096 c0) (clampI 16 256 c1) (clampI 1 8 c2) (clampI 1 64 c3) (clampI 0 64 c4) (clampI 1 256 c5) (clampI 1 4096 c6) = true :=
  cfgOk_iff.2 ⟨clampI_bd _ _ _ (by omega), clampI_bd _ _ _ (by omega), clampI_bd _ _ _ (by omega), clampI_bd _ _ _ (by omega), clampI_bd _ _ _ (by omega), clampI_bd _ _ _ (by omega), clampI_bd _ _ _ (by omega)⟩

set_option maxHeartbeats 4000000 in
theorem law_ConfigGrows (a0 : Int) (_ : (Lit.int .i64 a0).wf = true) (a1 : Int) (_ : (Lit.int .i64 a1).wf = true) (a2 : Int) (_ : (Lit.int .i64 a2).wf = true) (a3 : Int) (_ : (Lit.int .i64 a3).wf = true) (a4 : Int) (_ : (Lit.int .i64 a4).wf = true) (a5 : Int) (_ : (Lit.int .i64 a5).wf = true) (a6 : Int) (_ : (Lit.int .i64 a6).wf = true) (b0 : Int) (_ : (Lit.int .i64 b0).wf = true) (b1 : Int) (_ : (Lit.int .i64 b1).wf = true) (b2 : Int) (_ : (Lit.int .i64 b2).wf = true) (b3 : Int) (_ : (Lit.int .i64 b3).wf = true) (b4 : Int) (_ : (Lit.int .i64 b4).wf = true) (b5 : Int) (_ : (Lit.int .i64 b5).wf = true) (b6 : Int) (_ : (Lit.int .i64 b6).wf = true) (k : Int) (hkw : (Lit.int .i64 k).wf = true) (w : World) (hLim : Limits w) :
    Calls Tryd.prog 14 #[.agg #[.int .i64 a0, .int .i64 a1, .int .i64 a2, .int .i64 a3, .int .i64 a4, .int .i64 a5, .int .i64 a6], .agg #[.int .i64 b0, .int .i64 b1, .int .i64 b2, .int .i64 b3, .int .i64 b4, .int .i64 b5, .int .i64 b6], .int .i64 k] w fun e w' => e = .returned (.bool true) ∧ Below w.heap.size w w' := by
  have HL := Lib.hid hLim
  have hk1 : Hid (k < 9223372036854775808) := by show k < 9223372036854775808; have := (bounds_i64 hkw).2; omega
  clear hLim hkw
  go_enter Tryd.func14, Tryd.ntmps14
  go_wp2_with fail
  obtain ⟨W, hW⟩ : ∃ W, W = (w.alloc (Obj.cells (CfgRow a0 a1 a2 a3 a4 a5 a6) 32)).alloc (Obj.cells (CfgRow b0 b1 b2 b3 b4 b5 b6) 32) := ⟨_, rfl⟩
  obtain ⟨b, hb⟩ : ∃ b, b = w.heap.size := ⟨_, rfl⟩
  rw [← hW, ← hb]
  have hr : W.heap[b]? = some (Obj.cells (CfgRow a0 a1 a2 a3 a4 a5 a6) 32) := by rw [hW, hb]; exact alloc2_0 w _ _
  have hr2 : W.heap[b + 1]? = some (Obj.cells (CfgRow b0 b1 b2 b3 b4 b5 b6) 32) := by rw [hW, hb]; exact alloc2_1 w _ _
  have hTw : Touch nob w W := by rw [hW]; exact ((Touch.refl _ _).alloc _).alloc _
  have HLW := Lib.hid (HL.out.touch hTw (fun x => x))
  have HT := Lib.hid (And.intro hTw hb)
  obtain ⟨r0, r1, r2, r3, r4, r5, r6⟩ := cfg_box hr (Touch.refl _ _)
  have k0 := cell_regrown r0
  have k1 := cell_regrown r1
  have k2 := cell_regrown r2
  have k3 := cell_regrown r3
  have k4 := cell_regrown r4
  have k5 := cell_regrown r5
  have k6 := cell_regrown r6
  obtain ⟨s0, s1, s2, s3, s4, s5, s6⟩ := cfg_box hr2 (Touch.refl _ _)
  have l0 := cell_regrown s0
  have l1 := cell_regrown s1
  have l2 := cell_regrown s2
  have l3 := cell_regrown s3
  have l4 := cell_regrown s4
  have l5 := cell_regrown s5
  have l6 := cell_regrown s6
  clear r0 r1 r2 r3 r4 r5 r6 s0 s1 s2 s3 s4 s5 s6
  have lim : ∀ d os, Limits (grow (redrawn W d) os) := fun d os => HLW.out.touch (S := nob) (Touch.of_below (below_regrown W d os)) (fun x => x)
  have d1 := fun d os => Calls.regrown_of (config_Clamp a0 a1 a2 a3 a4 a5 a6 (grow (redrawn W d) os) (lim d os))
  have d2 := fun d os => Calls.regrown_of (config_Clamp b0 b1 b2 b3 b4 b5 b6 (grow (redrawn W d) os) (lim d os))
  have HR := Lib.hid (And.intro hr hr2)
  clear hW hb hr hr2 hTw lim
  refine wp_region_quiet_tail_below 4 (by kernel_rfl) (by kernel_rfl) ?_
  simp only [List.take_succ_cons, List.take_zero, List.drop_succ_cons, List.drop_zero]
  repeat (go_big_quiet_step (first | (with_reducible exact d1 _ _) | (with_reducible exact d2 _ _)))
  refine wpQuiet_nil ?_
  intro W2 hw'
  obtain ⟨⟨dq, osq⟩, hw''⟩ := hw'
  simp only at hw''
  have hT : Touch nob W W2 := by rw [hw'']; exact Touch.of_below (below_regrown W dq osq)
  have HT2 := Lib.hid hT
  have q0 := (hT.block b (Array.getElem?_eq_some_iff.1 HR.out.1).1 (fun x => x)).trans HR.out.1
  have q1 := (hT.block (b + 1) (Array.getElem?_eq_some_iff.1 HR.out.2).1 (fun x => x)).trans HR.out.2
  have f0 : W2.frozen? ⟨b, 0, none⟩ = false := by simp [World.frozen?, q0]
  have g0 : W2.frozen? ⟨b + 1, 0, none⟩ = false := by simp [World.frozen?, q1]
  have f1 : W2.frozen? ⟨b, 1, none⟩ = false := by simp [World.frozen?, q0]
  have g1 : W2.frozen? ⟨b + 1, 1, none⟩ = false := by simp [World.frozen?, q1]
  have f2 : W2.frozen? ⟨b, 2, none⟩ = false := by simp [World.frozen?, q0]
  have g2 : W2.frozen? ⟨b + 1, 2, none⟩ = false := by simp [World.frozen?, q1]
  have f3 : W2.frozen? ⟨b, 3, none⟩ = false := by simp [World.frozen?, q0]
  have g3 : W2.frozen? ⟨b + 1, 3, none⟩ = false := by simp [World.frozen?, q1]
  have f4 : W2.frozen? ⟨b, 4, none⟩ = false := by simp [World.frozen?, q0]
  have g4 : W2.frozen? ⟨b + 1, 4, none⟩ = false := by simp [World.frozen?, q1]
  have f5 : W2.frozen? ⟨b, 5, none⟩ = false := by simp [World.frozen?, q0]
  have g5 : W2.frozen? ⟨b + 1, 5, none⟩ = false := by simp [World.frozen?, q1]
  have f6 : W2.frozen? ⟨b, 6, none⟩ = false := by simp [World.frozen?, q0]
  have g6 : W2.frozen? ⟨b + 1, 6, none⟩ = false := by simp [World.frozen?, q1]
  obtain ⟨x0, x1, x2, x3, x4, x5, x6⟩ := cfg_box q0 (Touch.refl _ _)
  obtain ⟨y0, y1, y2, y3, y4, y5, y6⟩ := cfg_box q1 (Touch.refl _ _)
  have HQ := Lib.hid (And.intro q0 q1)
  clear hw'' d1 d2 k0 k1 k2 k3 k4 k5 k6 l0 l1 l2 l3 l4 l5 l6 q0 q1
  go_upto_region 2 with fail
  clear f0 f1 f2 f3 f4 f5 f6 g0 g1 g2 g3 g4 g5 g6 x0 x1 x2 x3 x4 x5 x6 y0 y1 y2 y3 y4 y5 y6
  have kx := clamp_ok a0 a1 a2 a3 a4 a5 a6
  have ky := clamp_ok b0 b1 b2 b3 b4 b5 b6
  generalize clampI 1 4096 a0 = X0 at *
  generalize clampI 1 4096 b0 = Y0 at *
  generalize clampI 16 256 a1 = X1 at *
  generalize clampI 16 256 b1 = Y1 at *
  generalize clampI 1 8 a2 = X2 at *
  generalize clampI 1 8 b2 = Y2 at *
  generalize clampI 1 64 a3 = X3 at *
  generalize clampI 1 64 b3 = Y3 at *
  generalize clampI 0 64 a4 = X4 at *
  generalize clampI 0 64 b4 = Y4 at *
  generalize clampI 1 256 a5 = X5 at *
  generalize clampI 1 256 b5 = Y5 at *
  generalize clampI 1 4096 a6 = X6 at *
  generalize clampI 1 4096 b6 = Y6 at *
  obtain ⟨W3, hW3⟩ : ∃ W3, W3 = set7 (set7 W2 b (.int .i64 X0) (.int .i64 X1) (.int .i64 X2) (.int .i64 X3) (.int .i64 X4) (.int .i64 X5) (.int .i64 X6)) (b + 1) (.int .i64 Y0) (.int .i64 Y1) (.int .i64 Y2) (.int .i64 Y3) (.int .i64 Y4) (.int .i64 Y5) (.int .i64 Y6) := ⟨_, rfl⟩
  have hW3' := hW3
  simp only [set7] at hW3'
  rw [← hW3']
  clear hW3'
  have p0 : W3.heap[b]? = some (Obj.cells (CfgRow X0 X1 X2 X3 X4 X5 X6) 32) := by rw [hW3]; exact (set7_other _ _ _ _ _ _ _ _ (by omega)).trans (set7_at _ _ _ _ _ _ _ _ HQ.out.1)
  have p1 : W3.heap[b + 1]? = some (Obj.cells (CfgRow Y0 Y1 Y2 Y3 Y4 Y5 Y6) 32) := by rw [hW3]; exact set7_at _ _ _ _ _ _ _ _ ((set7_other _ _ _ _ _ _ _ _ (by omega)).trans HQ.out.2)
  have hTW : Touch nob w W3 := by rw [hW3]; exact set7_touch _ _ _ _ _ _ _ (by have := HT.out.2; omega) (set7_touch _ _ _ _ _ _ _ (by have := HT.out.2; omega) (HT.out.1.trans HT2.out))
  obtain ⟨M0, hm0⟩ : ∃ m, (if X0 < Y0 then Y0 else X0) = m := ⟨_, rfl⟩
  obtain ⟨M1, hm1⟩ : ∃ m, (if X1 < Y1 then Y1 else X1) = m := ⟨_, rfl⟩
  obtain ⟨M2, hm2⟩ : ∃ m, (if X2 < Y2 then Y2 else X2) = m := ⟨_, rfl⟩
  obtain ⟨M3, hm3⟩ : ∃ m, (if X3 < Y3 then Y3 else X3) = m := ⟨_, rfl⟩
  obtain ⟨M4, hm4⟩ : ∃ m, (if X4 < Y4 then Y4 else X4) = m := ⟨_, rfl⟩
  obtain ⟨M5, hm5⟩ : ∃ m, (if X5 < Y5 then Y5 else X5) = m := ⟨_, rfl⟩
  obtain ⟨M6, hm6⟩ : ∃ m, (if X6 < Y6 then Y6 else X6) = m := ⟨_, rfl⟩
  have hmx : (X0 ≤ M0 ∧ Y0 ≤ M0 ∧ (M0 = X0 ∨ M0 = Y0)) ∧ (X1 ≤ M1 ∧ Y1 ≤ M1 ∧ (M1 = X1 ∨ M1 = Y1)) ∧ (X2 ≤ M2 ∧ Y2 ≤ M2 ∧ (M2 = X2 ∨ M2 = Y2)) ∧ (X3 ≤ M3 ∧ Y3 ≤ M3 ∧ (M3 = X3 ∨ M3 = Y3)) ∧ (X4 ≤ M4 ∧ Y4 ≤ M4 ∧ (M4 = X4 ∨ M4 = Y4)) ∧ (X5 ≤ M5 ∧ Y5 ≤ M5 ∧ (M5 = X5 ∨ M5 = Y5)) ∧ (X6 ≤ M6 ∧ Y6 ≤ M6 ∧ (M6 = X6 ∨ M6 = Y6)) := by
    refine ⟨?_, ?_, ?_, ?_, ?_, ?_, ?_⟩
    · subst hm0; split <;> omega
    · subst hm1; split <;> omega
    · subst hm2; split <;> omega
    · subst hm3; split <;> omega
    · subst hm4; split <;> omega
    · subst hm5; split <;> omega
    · subst hm6; split <;> omega
  obtain ⟨x0, x1, x2, x3, x4, x5, x6⟩ := cfg_box p0 (Touch.refl _ _)
  obtain ⟨y0, y1, y2, y3, y4, y5, y6⟩ := cfg_box p1 (Touch.refl _ _)
  have HM := Lib.hid hmx
  have HP := Lib.hid (And.intro p0 p1)
  have HTW := Lib.hid hTW
  have HK := Lib.hid (And.intro kx ky)
  have hb3 : b + 1 < W3.heap.size := (Array.getElem?_eq_some_iff.1 p1).1
  have HLT := Lib.hid hb3
  clear hW3 hmx kx ky hTW p0 p1 hb3 hT
  go_upto_region 3 with fail
  obtain ⟨W4, hW4⟩ : ∃ W4, W4 = W3.alloc (Obj.cells (CfgRow M0 M1 M2 M3 M4 M5 M6) 32) := ⟨_, rfl⟩
  obtain ⟨g, hg⟩ : ∃ g, g = W3.heap.size := ⟨_, rfl⟩
  rw [← hW4, ← hg]
  have hT4 : Touch nob W3 W4 := by rw [hW4]; exact (Touch.refl _ _).alloc _
  have p0 := (hT4.block b (Array.getElem?_eq_some_iff.1 HP.out.1).1 (fun x => x)).trans HP.out.1
  have p1 := (hT4.block (b + 1) (Array.getElem?_eq_some_iff.1 HP.out.2).1 (fun x => x)).trans HP.out.2
  have p2 : W4.heap[g]? = some (Obj.cells (CfgRow M0 M1 M2 M3 M4 M5 M6) 32) := by rw [hW4, hg]; exact World.alloc_heap_new _ _
  have hTW4 := HTW.out.trans hT4
  have HLW4 := Lib.hid (HL.out.touch hTW4 (fun x => x))
  have HT4 := Lib.hid hTW4
  clear hW4 hg hT4 hTW4 x0 x1 x2 x3 x4 x5 x6 y0 y1 y2 y3 y4 y5 y6 hm0 hm1 hm2 hm3 hm4 hm5 hm6
  obtain ⟨q0, q1, q2, q3, q4, q5, q6⟩ := cfg_box p0 (Touch.refl _ _)
  have r0 := cell_regrown q0
  have r1 := cell_regrown q1
  have r2 := cell_regrown q2
  have r3 := cell_regrown q3
  have r4 := cell_regrown q4
  have r5 := cell_regrown q5
  have r6 := cell_regrown q6
  clear q0 q1 q2 q3 q4 q5 q6
  obtain ⟨q0, q1, q2, q3, q4, q5, q6⟩ := cfg_box p1 (Touch.refl _ _)
  have s0 := cell_regrown q0
  have s1 := cell_regrown q1
  have s2 := cell_regrown q2
  have s3 := cell_regrown q3
  have s4 := cell_regrown q4
  have s5 := cell_regrown q5
  have s6 := cell_regrown q6
  clear q0 q1 q2 q3 q4 q5 q6
  obtain ⟨q0, q1, q2, q3, q4, q5, q6⟩ := cfg_box p2 (Touch.refl _ _)
  have u0 := cell_regrown q0
  have u1 := cell_regrown q1
  have u2 := cell_regrown q2
  have u3 := cell_regrown q3
  have u4 := cell_regrown q4
  have u5 := cell_regrown q5
  have u6 := cell_regrown q6
  clear q0 q1 q2 q3 q4 q5 q6
  have hkm : cfgOk M0 M1 M2 M3 M4 M5 M6 = true := by
    rw [cfgOk_iff]
    have kx := cfgOk_iff.1 HK.out.1
    have ky := cfgOk_iff.1 HK.out.2
    have := HM.out
    omega
  have lim : ∀ d os, Limits (grow (redrawn W4 d) os) := fun d os => HLW4.out.touch (S := nob) (Touch.of_below (below_regrown W4 d os)) (fun x => x)
  have d1 := fun d os => Calls.regrown_of (config_Right M0 M1 M2 M3 M4 M5 M6 (grow (redrawn W4 d) os) (lim d os))
  have d2 := fun d os => Calls.regrown_of (config_Marking M0 M1 M2 M3 M4 M5 M6 k hk1 (grow (redrawn W4 d) os) (lim d os))
  have d3 := fun d os => Calls.regrown_of (config_Marking X0 X1 X2 X3 X4 X5 X6 k hk1 (grow (redrawn W4 d) os) (lim d os))
  have d4 := fun d os => Calls.regrown_of (config_Cycle M0 M1 M2 M3 M4 M5 M6 k hk1 (grow (redrawn W4 d) os) (lim d os))
  have d5 := fun d os => Calls.regrown_of (config_Cycle Y0 Y1 Y2 Y3 Y4 Y5 Y6 k hk1 (grow (redrawn W4 d) os) (lim d os))
  have d6 := fun d os => Calls.regrown_of (law02_awake (grow (redrawn W4 d) os) (lim d os))
  have hmx := HM.out
  have e1 : markI X0 X1 X2 X3 X4 X5 k ≤ markI M0 M1 M2 M3 M4 M5 k := markI_mono HK.out.1 (by omega) (by omega) (by omega) (by omega) (by omega) (by omega)
  have e2 : cycleI Y0 Y1 Y2 Y3 Y4 Y5 k ≤ cycleI M0 M1 M2 M3 M4 M5 k := cycleI_mono HK.out.2 (by omega) (by omega) (by omega) (by omega) (by omega) (by omega)
  have e3 : markI M0 M1 M2 M3 M4 M5 k ≤ cycleI M0 M1 M2 M3 M4 M5 k := cycle_mark hkm
  rw [hkm] at d1 d2 d4
  rw [HK.out.1] at d3
  rw [HK.out.2] at d5
  simp only [ifOk] at d2 d3 d4 d5
  generalize markI M0 M1 M2 M3 M4 M5 k = m1 at *
  generalize markI X0 X1 X2 X3 X4 X5 k = m2 at *
  generalize cycleI M0 M1 M2 M3 M4 M5 k = m3 at *
  generalize cycleI Y0 Y1 Y2 Y3 Y4 Y5 k = m4 at *
  have c1 : decide (m2 ≤ m1) = true := by simpa using e1
  have c2 : decide (m4 ≤ m3) = true := by simpa using e2
  have c3 : decide (m1 ≤ m3) = true := by simpa using e3
  clear lim hmx hkm p0 p1 p2
  refine wp_region_quiet_below (by kernel_rfl) (by kernel_rfl) ?_
  repeat (go_big_quiet_step (first | (go_at_call 25; exact d1 _ _) | (go_at_call 33; exact d6 _ _) | (with_reducible exact d2 _ _) | (with_reducible exact d3 _ _) | (with_reducible exact d4 _ _) | (with_reducible exact d5 _ _)))
  refine wpQuiet_nil ?_
  intro W5 hw'
  obtain ⟨⟨dr, osr⟩, hw''⟩ := hw'
  simp only at hw''
  have hT5 : Touch nob W4 W5 := by rw [hw'']; exact Touch.of_below (below_regrown W4 dr osr)
  clear hw'' d1 d2 d3 d4 d5 d6
  go_wp2
  go_ret
  exact ⟨rfl, (HT4.out.trans hT5).below⟩
end Go.Proofs.YtmonmiadcmffgaaDoor
