/- The law that two places of one class have one address just if they are the same, walked. Conditions: the tables of limits and of sizes read as laid. -/
import Derived.Test.YtmonmiadcmffgaaDoorLaws04
namespace Go.Proofs.YtmonmiadcmffgaaDoor
open Go.RowKit Go.Sort

theorem pl_where {c0 c1 c2 c3 c4 c5 c6 k b s x : Int} (h : plOk c0 c1 c2 c3 c4 c5 c6 k b s x = true) : (plA c1 k b s x - 1) / c1 = b ∧ (plA c1 k b s x - 1 - b * c1) / clsSize k = s ∧ (plA c1 k b s x - 1 - b * c1) % clsSize k = x ∧ blkOk c0 c1 c2 c3 c4 c5 c6 (plA c1 k b s x) = true := by
  obtain ⟨⟨m0, m1⟩, ⟨m2, m3⟩, m4⟩ := pl_bd h
  obtain ⟨hc, hi, ⟨b0, b1⟩, ⟨s0, s1⟩, x0, x1⟩ := plOk_iff.1 h
  obtain ⟨⟨u0, v0⟩, ⟨u1, v1⟩, _⟩ := cfgOk_iff.1 hc
  have z0 := clsSize_lo hi
  refine ⟨?_, ?_, ?_, ?_⟩
  · rw [show plA c1 k b s x - 1 = (s * clsSize k + x) + b * c1 by unfold plA; omega, Int.add_mul_ediv_right _ _ (by omega), Int.ediv_eq_zero_of_lt (by omega) (by omega)]; omega
  · rw [show plA c1 k b s x - 1 - b * c1 = x + s * clsSize k by unfold plA; omega, Int.add_mul_ediv_right _ _ (by omega), Int.ediv_eq_zero_of_lt x0 x1]; omega
  · rw [show plA c1 k b s x - 1 - b * c1 = x + s * clsSize k by unfold plA; omega, Int.add_mul_emod_self_right, Int.emod_eq_of_lt x0 x1]
  · exact blkOk_iff.2 ⟨hc, by unfold plA; omega, by unfold plA; omega⟩
theorem pl_inj {c0 c1 c2 c3 c4 c5 c6 k b s x b' s' x' : Int} (h : plOk c0 c1 c2 c3 c4 c5 c6 k b s x = true) (h' : plOk c0 c1 c2 c3 c4 c5 c6 k b' s' x' = true) :
    (plA c1 k b s x == plA c1 k b' s' x') = (b == b' && (s == s' && x == x')) := by
  obtain ⟨e1, e2, e3, _⟩ := pl_where h
  obtain ⟨f1, f2, f3, _⟩ := pl_where h'
  rw [Bool.eq_iff_iff]
  simp only [beq_iff_eq, Bool.and_eq_true]
  constructor
  · intro e
    have hb : b = b' := by rw [← e1, ← f1, e]
    subst hb
    exact ⟨rfl, by rw [← e2, ← f2, e], by rw [← e3, ← f3, e]⟩
  · rintro ⟨rfl, rfl, rfl⟩; rfl

theorem six_box {W : World} {b : Nat} {t : TypeId} {x0 x1 x2 x3 x4 x5 : Int} (h : W.heap[b]? = some (Obj.cells #[.int .i64 x0, .int .i64 x1, .int .i64 x2, .int .i64 x3, .int .i64 x4, .int .i64 x5] t)) {w' : World} (ht : Touch nob W w') :
    w'.cell? ⟨b, 0, none⟩ = some (.int .i64 x0) ∧ w'.cell? ⟨b, 1, none⟩ = some (.int .i64 x1) ∧ w'.cell? ⟨b, 2, none⟩ = some (.int .i64 x2) ∧ w'.cell? ⟨b, 3, none⟩ = some (.int .i64 x3) ∧ w'.cell? ⟨b, 4, none⟩ = some (.int .i64 x4) ∧ w'.cell? ⟨b, 5, none⟩ = some (.int .i64 x5) := by
  have hb := (Array.getElem?_eq_some_iff.1 h).1
  have e := (ht.block b hb (fun x => x)).trans h
  simp [World.cell?, e]

set_option maxHeartbeats 1000000 in
theorem law_AddrApart (c0 : Int) (_ : (Lit.int .i64 c0).wf = true) (c1 : Int) (_ : (Lit.int .i64 c1).wf = true) (c2 : Int) (_ : (Lit.int .i64 c2).wf = true) (c3 : Int) (_ : (Lit.int .i64 c3).wf = true) (c4 : Int) (_ : (Lit.int .i64 c4).wf = true) (c5 : Int) (_ : (Lit.int .i64 c5).wf = true) (c6 : Int) (_ : (Lit.int .i64 c6).wf = true) (k : Int) (_ : (Lit.int .i64 k).wf = true) (b : Int) (_ : (Lit.int .i64 b).wf = true) (s : Int) (_ : (Lit.int .i64 s).wf = true) (x : Int) (_ : (Lit.int .i64 x).wf = true) (b' : Int) (_ : (Lit.int .i64 b').wf = true) (s' : Int) (_ : (Lit.int .i64 s').wf = true) (x' : Int) (_ : (Lit.int .i64 x').wf = true) (w : World) (hLim : Limits w) (hS : Sizes w) :
    Calls Tryd.prog 12 #[CfgV c0 c1 c2 c3 c4 c5 c6, .int .i64 k, .agg #[.int .i64 b, .int .i64 s, .int .i64 x, .int .i64 b', .int .i64 s', .int .i64 x']] w fun e w' => e = .returned (.bool true) ∧ Below w.heap.size w w' := by
  have HL0 := Lib.hid hLim
  have HZ0 := Lib.hid hS
  clear hLim hS
  go_enter Tryd.func12, Tryd.ntmps12
  go_wp2_with fail
  obtain ⟨W, hW⟩ : ∃ W, W = (w.alloc (Obj.cells (CfgRow c0 c1 c2 c3 c4 c5 c6) 32)).alloc (Obj.cells #[.int .i64 b, .int .i64 s, .int .i64 x, .int .i64 b', .int .i64 s', .int .i64 x'] 60) := ⟨_, rfl⟩
  obtain ⟨n, hn⟩ : ∃ n, n = w.heap.size := ⟨_, rfl⟩
  rw [← hW, ← hn]
  have hr : W.heap[n]? = some (Obj.cells (CfgRow c0 c1 c2 c3 c4 c5 c6) 32) := by rw [hW, hn]; exact (alloc2_0 w _ _).trans rfl
  have hr2 : W.heap[n + 1]? = some (Obj.cells #[.int .i64 b, .int .i64 s, .int .i64 x, .int .i64 b', .int .i64 s', .int .i64 x'] 60) := by rw [hW, hn]; exact alloc2_1 w _ _
  have HT : Hid (Touch nob w W) := by show Touch nob w W; rw [hW]; exact ((Touch.refl _ _).alloc _).alloc _
  have HL := Lib.hid (HL0.out.touch HT.out (fun x => x))
  have HZ := Lib.hid (HZ0.out.touch HT.out (fun x => x))
  have HB := Lib.hid (fun w' ht => cfg_box hr (w' := w') ht)
  have HP := Lib.hid (fun w' ht => six_box hr2 (w' := w') ht)
  obtain ⟨p0, p1, p2, p3, p4, p5⟩ := HP.out _ (Touch.refl nob W)
  obtain ⟨k0, k1, k2, k3, k4, k5, k6⟩ := HB.out _ (Touch.refl nob W)
  clear hW hn hr hr2 HL0 HZ0
  cases h1 : plOk c0 c1 c2 c3 c4 c5 c6 k b s x <;> cases h2 : plOk c0 c1 c2 c3 c4 c5 c6 k b' s' x'
  case true.true =>
    obtain ⟨e1, e2, e3, e4⟩ := pl_where h1
    have hi := pl_inj h1 h2
    have hsl : plOk c0 c1 c2 c3 c4 c5 c6 k b s 0 = true := by
      obtain ⟨hc, hk, hb, hs, x0, x1⟩ := plOk_iff.1 h1
      exact plOk_iff.2 ⟨hc, hk, hb, hs, by omega, by omega⟩
    have ha : plA c1 k b s x = plA c1 k b s 0 + x := by unfold plA; omega
    obtain ⟨A, hA⟩ : ∃ A, plA c1 k b s x = A := ⟨_, rfl⟩
    obtain ⟨A2, hA2⟩ : ∃ A, plA c1 k b' s' x' = A := ⟨_, rfl⟩
    obtain ⟨A0, hA0⟩ : ∃ A, plA c1 k b s 0 = A := ⟨_, rfl⟩
    rw [hA] at ha e1 e4 hi
    rw [hA0] at ha
    rw [hA2] at hi
    obtain ⟨bb, hbb⟩ : ∃ v, (b == b' && (s == s' && x == x')) = v := ⟨_, rfl⟩
    have hrun := run_pl_eql b s x b' s' x'
    rw [hbb] at hi hrun
    have hB0 := pl_bd h1
    have hc0 : (A == A0 + x) = true := by rw [beq_iff_eq]; exact ha
    have hw0 : IntKind.i64.wrap (A0 + x) = A0 + x := by
      rw [← ha]
      have := (blkOk_iff.1 e4).2
      exact IntWalk.i64_in _ (by omega)
    have HA1 := Lib.hid hA
    have HA2 := Lib.hid hA2
    have HA0 := Lib.hid hA0
    clear hA hA2 hA0 ha hbb hB0 e2 e3
    have HO1 := Lib.hid h1
    have HO2 := Lib.hid h2
    have HBK := Lib.hid e4
    have HX := Lib.hid e1
    have HSL := Lib.hid hsl
    clear h1 h2 e1 e4 hsl
    go_wp2_with (first | (go_at_call 49; refine (addr_Of c0 c1 c2 c3 c4 c5 c6 k _ _ _ _ (HL.out.touch (S := nob) (by repeat (first | with_reducible exact Touch.refl _ _ | with_reducible assumption | with_reducible apply Touch.alloc | with_reducible apply Touch.drewN | with_reducible apply Touch.drew | with_reducible refine Touch.setCell ?_ (.inr (by first | omega | (simp; done) | (simp; omega))) _)) (fun h => h)) (HZ.out.touch (S := nob) (by repeat (first | with_reducible exact Touch.refl _ _ | with_reducible assumption | with_reducible apply Touch.alloc | with_reducible apply Touch.drewN | with_reducible apply Touch.drew | with_reducible refine Touch.setCell ?_ (.inr (by first | omega | (simp; done) | (simp; omega))) _)) (fun h => h))).mono ?_; rintro e w3 ⟨rfl, hb3⟩; (first | rw [HO1.out, HA1.out] | rw [HO2.out, HA2.out]); simp only [ifB]; have hT3 : Touch nob W w3 := Touch.trans (S := nob) (by repeat (first | with_reducible exact Touch.refl _ _ | with_reducible assumption | with_reducible apply Touch.alloc | with_reducible apply Touch.drewN | with_reducible apply Touch.drew | with_reducible refine Touch.setCell ?_ (.inr (by first | omega | (simp; done) | (simp; omega))) _)) (Touch.of_below hb3); clear hb3; obtain ⟨k0, k1, k2, k3, k4, k5, k6⟩ := HB.out _ hT3; obtain ⟨p0, p1, p2, p3, p4, p5⟩ := HP.out _ hT3) | (go_at_call 47; refine (addr_Block c0 c1 c2 c3 c4 c5 c6 _ _ (HL.out.touch (S := nob) (by repeat (first | with_reducible exact Touch.refl _ _ | with_reducible assumption | with_reducible apply Touch.alloc | with_reducible apply Touch.drewN | with_reducible apply Touch.drew | with_reducible refine Touch.setCell ?_ (.inr (by first | omega | (simp; done) | (simp; omega))) _)) (fun h => h))).mono ?_; rintro e w3 ⟨rfl, hb3⟩; rw [HBK.out, HX.out]; simp only [ifB]; have hT3 : Touch nob W w3 := Touch.trans (S := nob) (by repeat (first | with_reducible exact Touch.refl _ _ | with_reducible assumption | with_reducible apply Touch.alloc | with_reducible apply Touch.drewN | with_reducible apply Touch.drew | with_reducible refine Touch.setCell ?_ (.inr (by first | omega | (simp; done) | (simp; omega))) _)) (Touch.of_below hb3); clear hb3; obtain ⟨k0, k1, k2, k3, k4, k5, k6⟩ := HB.out _ hT3; obtain ⟨p0, p1, p2, p3, p4, p5⟩ := HP.out _ hT3) | (go_at_call 50; refine (addr_Slot c0 c1 c2 c3 c4 c5 c6 k _ _ _ (HL.out.touch (S := nob) (by repeat (first | with_reducible exact Touch.refl _ _ | with_reducible assumption | with_reducible apply Touch.alloc | with_reducible apply Touch.drewN | with_reducible apply Touch.drew | with_reducible refine Touch.setCell ?_ (.inr (by first | omega | (simp; done) | (simp; omega))) _)) (fun h => h)) (HZ.out.touch (S := nob) (by repeat (first | with_reducible exact Touch.refl _ _ | with_reducible assumption | with_reducible apply Touch.alloc | with_reducible apply Touch.drewN | with_reducible apply Touch.drew | with_reducible refine Touch.setCell ?_ (.inr (by first | omega | (simp; done) | (simp; omega))) _)) (fun h => h))).mono ?_; rintro e w3 ⟨rfl, hb3⟩; rw [HSL.out]; simp only [ifB, HA0.out]; have hT3 : Touch nob W w3 := Touch.trans (S := nob) (by repeat (first | with_reducible exact Touch.refl _ _ | with_reducible assumption | with_reducible apply Touch.alloc | with_reducible apply Touch.drewN | with_reducible apply Touch.drew | with_reducible refine Touch.setCell ?_ (.inr (by first | omega | (simp; done) | (simp; omega))) _)) (Touch.of_below hb3); clear hb3; obtain ⟨k0, k1, k2, k3, k4, k5, k6⟩ := HB.out _ hT3; obtain ⟨p0, p1, p2, p3, p4, p5⟩ := HP.out _ hT3) | (go_at_call 48; refine (law04_awake _ (HL.out.touch (S := nob) (by repeat (first | with_reducible exact Touch.refl _ _ | with_reducible assumption | with_reducible apply Touch.alloc | with_reducible apply Touch.drewN | with_reducible apply Touch.drew | with_reducible refine Touch.setCell ?_ (.inr (by first | omega | (simp; done) | (simp; omega))) _)) (fun h => h)) (HZ.out.touch (S := nob) (by repeat (first | with_reducible exact Touch.refl _ _ | with_reducible assumption | with_reducible apply Touch.alloc | with_reducible apply Touch.drewN | with_reducible apply Touch.drew | with_reducible refine Touch.setCell ?_ (.inr (by first | omega | (simp; done) | (simp; omega))) _)) (fun h => h))).mono ?_; rintro e w3 ⟨rfl, hb3⟩; have hT3 : Touch nob W w3 := Touch.trans (S := nob) (by repeat (first | with_reducible exact Touch.refl _ _ | with_reducible assumption | with_reducible apply Touch.alloc | with_reducible apply Touch.drewN | with_reducible apply Touch.drew | with_reducible refine Touch.setCell ?_ (.inr (by first | omega | (simp; done) | (simp; omega))) _)) (Touch.of_below hb3); clear hb3; obtain ⟨k0, k1, k2, k3, k4, k5, k6⟩ := HB.out _ hT3; obtain ⟨p0, p1, p2, p3, p4, p5⟩ := HP.out _ hT3))
    have kk0 := cell_regrown k0
    have kk1 := cell_regrown k1
    have kk2 := cell_regrown k2
    have kk3 := cell_regrown k3
    have kk4 := cell_regrown k4
    have kk5 := cell_regrown k5
    have kk6 := cell_regrown k6
    have pp0 := cell_regrown p0
    have pp1 := cell_regrown p1
    have pp2 := cell_regrown p2
    have pp3 := cell_regrown p3
    have pp4 := cell_regrown p4
    have pp5 := cell_regrown p5
    have lim : ∀ d os, Limits (grow (redrawn w3 d) os) := fun d os => HL.out.touch (S := nob) (hT3.trans (Touch.of_below (below_regrown w3 d os))) (fun h => h)
    have siz : ∀ d os, Sizes (grow (redrawn w3 d) os) := fun d os => HZ.out.touch (S := nob) (hT3.trans (Touch.of_below (below_regrown w3 d os))) (fun h => h)
    have d1 := fun d os => Calls.regrown_of (addr_Slot c0 c1 c2 c3 c4 c5 c6 k b s (grow (redrawn w3 d) os) (lim d os) (siz d os))
    have d2 := fun d os => Calls.regrown_of (law04_awake (grow (redrawn w3 d) os) (lim d os) (siz d os))
    rw [HSL.out] at d1
    simp only [ifB, HA0.out] at d1
    clear lim siz k0 k1 k2 k3 k4 k5 k6 p0 p1 p2 p3 p4 p5
    cases bb
    all_goals
      refine wp_region_quiet_below (by kernel_rfl) (by kernel_rfl) ?_
      repeat (go_big_quiet_step (first | (go_at_call 50; exact d1 _ _) | (go_at_call 48; exact d2 _ _)))
      refine wpQuiet_nil ?_
      intro W5 hw'
      obtain ⟨⟨dr, osr⟩, hw''⟩ := hw'
      simp only at hw''
      have hT5 : Touch nob w3 W5 := by rw [hw'']; exact Touch.of_below (below_regrown w3 dr osr)
      clear hw'' d1 d2
      go_wp2
      go_ret
      exact ⟨rfl, (HT.out.trans (hT3.trans hT5)).below⟩
  all_goals
    have HO1 := Lib.hid h1
    have HO2 := Lib.hid h2
    clear h1 h2
    go_wp2_with (first | (go_at_call 49; refine (addr_Of c0 c1 c2 c3 c4 c5 c6 k _ _ _ _ (HL.out.touch (S := nob) (by repeat (first | with_reducible exact Touch.refl _ _ | with_reducible assumption | with_reducible apply Touch.alloc | with_reducible apply Touch.drewN | with_reducible apply Touch.drew | with_reducible refine Touch.setCell ?_ (.inr (by first | omega | (simp; done) | (simp; omega))) _)) (fun h => h)) (HZ.out.touch (S := nob) (by repeat (first | with_reducible exact Touch.refl _ _ | with_reducible assumption | with_reducible apply Touch.alloc | with_reducible apply Touch.drewN | with_reducible apply Touch.drew | with_reducible refine Touch.setCell ?_ (.inr (by first | omega | (simp; done) | (simp; omega))) _)) (fun h => h))).mono ?_; rintro e w3 ⟨rfl, hb3⟩; (first | rw [HO1.out] | rw [HO2.out]); simp only [ifB]; have hT3 : Touch nob W w3 := Touch.trans (S := nob) (by repeat (first | with_reducible exact Touch.refl _ _ | with_reducible assumption | with_reducible apply Touch.alloc | with_reducible apply Touch.drewN | with_reducible apply Touch.drew | with_reducible refine Touch.setCell ?_ (.inr (by first | omega | (simp; done) | (simp; omega))) _)) (Touch.of_below hb3); clear hb3; obtain ⟨k0, k1, k2, k3, k4, k5, k6⟩ := HB.out _ hT3; obtain ⟨p0, p1, p2, p3, p4, p5⟩ := HP.out _ hT3) | (go_at_call 47; refine (addr_Block c0 c1 c2 c3 c4 c5 c6 _ _ (HL.out.touch (S := nob) (by repeat (first | with_reducible exact Touch.refl _ _ | with_reducible assumption | with_reducible apply Touch.alloc | with_reducible apply Touch.drewN | with_reducible apply Touch.drew | with_reducible refine Touch.setCell ?_ (.inr (by first | omega | (simp; done) | (simp; omega))) _)) (fun h => h))).mono ?_; rintro e w3 ⟨rfl, hb3⟩; rw [HBK.out, HX.out]; simp only [ifB]; have hT3 : Touch nob W w3 := Touch.trans (S := nob) (by repeat (first | with_reducible exact Touch.refl _ _ | with_reducible assumption | with_reducible apply Touch.alloc | with_reducible apply Touch.drewN | with_reducible apply Touch.drew | with_reducible refine Touch.setCell ?_ (.inr (by first | omega | (simp; done) | (simp; omega))) _)) (Touch.of_below hb3); clear hb3; obtain ⟨k0, k1, k2, k3, k4, k5, k6⟩ := HB.out _ hT3; obtain ⟨p0, p1, p2, p3, p4, p5⟩ := HP.out _ hT3) | (go_at_call 50; refine (addr_Slot c0 c1 c2 c3 c4 c5 c6 k _ _ _ (HL.out.touch (S := nob) (by repeat (first | with_reducible exact Touch.refl _ _ | with_reducible assumption | with_reducible apply Touch.alloc | with_reducible apply Touch.drewN | with_reducible apply Touch.drew | with_reducible refine Touch.setCell ?_ (.inr (by first | omega | (simp; done) | (simp; omega))) _)) (fun h => h)) (HZ.out.touch (S := nob) (by repeat (first | with_reducible exact Touch.refl _ _ | with_reducible assumption | with_reducible apply Touch.alloc | with_reducible apply Touch.drewN | with_reducible apply Touch.drew | with_reducible refine Touch.setCell ?_ (.inr (by first | omega | (simp; done) | (simp; omega))) _)) (fun h => h))).mono ?_; rintro e w3 ⟨rfl, hb3⟩; rw [HSL.out]; simp only [ifB]; have hT3 : Touch nob W w3 := Touch.trans (S := nob) (by repeat (first | with_reducible exact Touch.refl _ _ | with_reducible assumption | with_reducible apply Touch.alloc | with_reducible apply Touch.drewN | with_reducible apply Touch.drew | with_reducible refine Touch.setCell ?_ (.inr (by first | omega | (simp; done) | (simp; omega))) _)) (Touch.of_below hb3); clear hb3; obtain ⟨k0, k1, k2, k3, k4, k5, k6⟩ := HB.out _ hT3; obtain ⟨p0, p1, p2, p3, p4, p5⟩ := HP.out _ hT3) | (go_at_call 48; refine (law04_awake _ (HL.out.touch (S := nob) (by repeat (first | with_reducible exact Touch.refl _ _ | with_reducible assumption | with_reducible apply Touch.alloc | with_reducible apply Touch.drewN | with_reducible apply Touch.drew | with_reducible refine Touch.setCell ?_ (.inr (by first | omega | (simp; done) | (simp; omega))) _)) (fun h => h)) (HZ.out.touch (S := nob) (by repeat (first | with_reducible exact Touch.refl _ _ | with_reducible assumption | with_reducible apply Touch.alloc | with_reducible apply Touch.drewN | with_reducible apply Touch.drew | with_reducible refine Touch.setCell ?_ (.inr (by first | omega | (simp; done) | (simp; omega))) _)) (fun h => h))).mono ?_; rintro e w3 ⟨rfl, hb3⟩; have hT3 : Touch nob W w3 := Touch.trans (S := nob) (by repeat (first | with_reducible exact Touch.refl _ _ | with_reducible assumption | with_reducible apply Touch.alloc | with_reducible apply Touch.drewN | with_reducible apply Touch.drew | with_reducible refine Touch.setCell ?_ (.inr (by first | omega | (simp; done) | (simp; omega))) _)) (Touch.of_below hb3); clear hb3; obtain ⟨k0, k1, k2, k3, k4, k5, k6⟩ := HB.out _ hT3; obtain ⟨p0, p1, p2, p3, p4, p5⟩ := HP.out _ hT3))
    go_ret
    exact ⟨rfl, (HT.out.trans (by with_reducible assumption)).below⟩
end Go.Proofs.YtmonmiadcmffgaaDoor
