/- The bounds of picks, walked. Conditions: the table of limits reads as laid. -/
import Derived.Test.YtmonmiadcmffgaaDoorLaws02
import Derived.Test.YtmonmiadcmffgaaDoorTimes
namespace Go.Proofs.YtmonmiadcmffgaaDoor
open Go.RowKit Go.Sort

def cfgRound (c0 c1 c2 c3 c4 c5 : Int) : Int := 40 * cfgSlots c0 c1 + 2 * c2 * (c5 + 4) + 2 * c4 + cfgOp c1 c5 + cfgAnswer c3 c5 + 40
def cfgRest (c0 c1 c2 c3 c5 : Int) : Int := 2 * c0 * (c1 + 8) + 3 * cfgOp c1 c5 + 2 * cfgAnswer c3 c5 + 4 * c2 + 60
def markI (c0 c1 c2 c3 c4 c5 k : Int) : Int := timesI (timesI (max 0 k) (2 * cfgSlots c0 c1 + 6)) (cfgRound c0 c1 c2 c3 c4 c5)
def cycleI (c0 c1 c2 c3 c4 c5 k : Int) : Int := if markI c0 c1 c2 c3 c4 c5 k > big - timesI (max 0 k) (cfgRest c0 c1 c2 c3 c5) then big else markI c0 c1 c2 c3 c4 c5 k + timesI (max 0 k) (cfgRest c0 c1 c2 c3 c5)

theorem box1 {W : World} {b : Nat} {t : TypeId} {k : Int} (h : W.heap[b]? = some (Obj.cells #[.int .i64 k] t)) {w' : World} (ht : Touch nob W w') : w'.cell? ⟨b, 0, none⟩ = some (.int .i64 k) := by
  have hb := (Array.getElem?_eq_some_iff.1 h).1
  have e := (ht.block b hb (fun x => x)).trans h
  simp [World.cell?, e]

theorem cfg_bd {c0 c1 c2 c3 c4 c5 c6 : Int} (hk : cfgOk c0 c1 c2 c3 c4 c5 c6 = true) : (0 ≤ cfgSlots c0 c1 ∧ cfgSlots c0 c1 ≤ 524288) ∧ (0 ≤ cfgOp c1 c5 ∧ cfgOp c1 c5 ≤ 2000) ∧ (0 ≤ cfgAnswer c3 c5 ∧ cfgAnswer c3 c5 ≤ 20000) ∧ (0 ≤ 2 * c2 * (c5 + 4) ∧ 2 * c2 * (c5 + 4) ≤ 5000) ∧ (0 ≤ 2 * c0 * (c1 + 8) ∧ 2 * c0 * (c1 + 8) ≤ 3000000) := by
  obtain ⟨⟨u0, v0⟩, ⟨u1, v1⟩, ⟨u2, v2⟩, ⟨u3, v3⟩, ⟨u4, v4⟩, ⟨u5, v5⟩, u6, v6⟩ := cfgOk_iff.1 hk
  have ⟨a0, a1⟩ := mul_bd (a := c0) (b := c1 / 2) (A := 4096) (B := 128) (by omega) (by omega) (by omega) (by omega)
  have ⟨b0, b1⟩ := mul_bd (a := c3) (b := c5 + 8) (A := 64) (B := 264) (by omega) (by omega) (by omega) (by omega)
  have ⟨d0, d1⟩ := mul_bd (a := 2 * c2) (b := c5 + 4) (A := 16) (B := 260) (by omega) (by omega) (by omega) (by omega)
  have ⟨e0, e1⟩ := mul_bd (a := 2 * c0) (b := c1 + 8) (A := 8192) (B := 264) (by omega) (by omega) (by omega) (by omega)
  unfold cfgSlots cfgOp cfgAnswer
  exact ⟨⟨a0, by omega⟩, ⟨by omega, by omega⟩, ⟨by omega, by omega⟩, ⟨d0, by omega⟩, e0, by omega⟩

set_option maxHeartbeats 1000000 in
theorem config_Marking1 (c0 c1 c2 c3 c4 c5 c6 k : Int) (hk1 : Hid (k < 9223372036854775808)) (hk : cfgOk c0 c1 c2 c3 c4 c5 c6 = true) (W : World) (hL : Limits W) (b b2 : Nat) (hr : W.heap[b]? = some (Obj.cells (CfgRow c0 c1 c2 c3 c4 c5 c6) 32)) (hr2 : W.heap[b2]? = some (Obj.cells #[.int .i64 k] 3)) :
    Calls Tryd.prog 71 #[.pointer (some ⟨b, 0, none⟩), .pointer (some ⟨b2, 0, none⟩)] W fun e w' => e = .returned (.int .i64 (markI c0 c1 c2 c3 c4 c5 k)) ∧ Below W.heap.size W w' := by
  have HL := Lib.hid hL
  have HB := Lib.hid (fun w' ht => cfg_box hr (w' := w') ht)
  have HB2 := Lib.hid (fun w' ht => box1 hr2 (w' := w') ht)
  have hT := Touch.refl nob W
  obtain ⟨k0, k1, k2, k3, k4, k5, k6⟩ := HB.out _ hT
  have k7 := HB2.out _ hT
  clear hr hr2 hL
  obtain ⟨⟨n0, n1⟩, ⟨o0, o1⟩, ⟨a0, a1⟩, ⟨p0, p1⟩, _⟩ := cfg_bd hk
  obtain ⟨⟨u0, v0⟩, ⟨u1, v1⟩, ⟨u2, v2⟩, ⟨u3, v3⟩, ⟨u4, v4⟩, ⟨u5, v5⟩, u6, v6⟩ := cfgOk_iff.1 hk
  have HM : Hid (markI c0 c1 c2 c3 c4 c5 k = timesI (timesI (max 0 k) (2 * cfgSlots c0 c1 + 6)) (40 * cfgSlots c0 c1 + 2 * c2 * (c5 + 4) + 2 * c4 + cfgOp c1 c5 + cfgAnswer c3 c5 + 40)) := rfl
  obtain ⟨n, hn⟩ : ∃ n, cfgSlots c0 c1 = n := ⟨_, rfl⟩
  obtain ⟨o, ho⟩ : ∃ n, cfgOp c1 c5 = n := ⟨_, rfl⟩
  obtain ⟨a, ha⟩ : ∃ n, cfgAnswer c3 c5 = n := ⟨_, rfl⟩
  obtain ⟨p, hp⟩ : ∃ n, 2 * c2 * (c5 + 4) = n := ⟨_, rfl⟩
  rw [hn] at n0 n1; rw [ho] at o0 o1; rw [ha] at a0 a1; rw [hp] at p0 p1
  rw [hn, ho, ha, hp] at HM
  have q : IntKind.i64.wrap (2 * c2 * (c5 + 4)) = p := by rw [hp]; exact IntWalk.i64_in _ (by omega)
  have CS := Lib.hid (fun w hl => config_Slots c0 c1 c2 c3 c4 c5 c6 w hl)
  have CO := Lib.hid (fun w hl => config_OpPicks c0 c1 c2 c3 c4 c5 c6 w hl)
  have CA := Lib.hid (fun w hl => config_AnswerPicks c0 c1 c2 c3 c4 c5 c6 w hl)
  rw [hk] at CS CO CA
  simp only [ifOk] at CS CO CA
  rw [hn] at CS; rw [ho] at CO; rw [ha] at CA
  obtain ⟨m, hm⟩ : ∃ m, max 0 k = m := ⟨_, rfl⟩
  have M0 : 0 ≤ m := by omega
  have t0 := timesI_bd (a := m) (b := 2 * n + 6) M0 (by omega)
  rw [hm] at HM
  have HT0 : Hid (timesI m (2 * n + 6) < 9223372036854775808) := by show timesI _ _ < _; have := t0.2; unfold big at this; omega
  have HT1 : Hid (m < 9223372036854775808) := by show m < _; have := hk1.out; omega
  have hmk : (k < 0 ∧ m = 0) ∨ (0 = k ∧ m = 0) ∨ (0 < k ∧ m = k) := by omega
  have HT2 : Hid (2 * n + 6 < 9223372036854775808) := by show 2 * n + 6 < _; omega
  have HT3 : Hid (40 * n + p + 2 * c4 + o + a + 40 < 9223372036854775808) := by show 40 * n + p + 2 * c4 + o + a + 40 < _; omega
  have t00 := t0.1
  clear t0 hk hn ho ha hp hm
  go_enter Tryd.func71, Tryd.ntmps71
  go_wp2_with (go_at_call 30; refine (CS.out _ (HL.out.touch (S := nob) (by assumption) (fun x => x))).mono ?_; rintro e w3 ⟨rfl, hb1⟩; have hT3 := Touch.trans (S := nob) hT (Touch.of_below hb1); clear hb1)
  clear k0 k1 k2 k3 k4 k5 k6
  obtain ⟨r0, r1, r2, r3, r4, r5, r6⟩ := HB.out _ hT3
  have k0 := cell_regrown r0
  have k1 := cell_regrown r1
  have k2 := cell_regrown r2
  have k3 := cell_regrown r3
  have k4 := cell_regrown r4
  have k5 := cell_regrown r5
  have k6 := cell_regrown r6
  clear r0 r1 r2 r3 r4 r5 r6
  have lim : ∀ d os, Limits (grow (redrawn w3 d) os) := fun d os => HL.out.touch (S := nob) (hT3.trans (Touch.of_below (below_regrown w3 d os))) (fun x => x)
  have d3 := fun d os => Calls.regrown_of (CO.out (grow (redrawn w3 d) os) (lim d os))
  have d4 := fun d os => Calls.regrown_of (CA.out (grow (redrawn w3 d) os) (lim d os))
  clear lim
  refine wp_region_quiet_below (by kernel_rfl) (by kernel_rfl) ?_
  repeat (go_big_quiet_step (first | exact d3 _ _ | exact d4 _ _))
  refine wpQuiet_nil ?_
  intro _ hw'
  obtain ⟨⟨dq, osq⟩, hw''⟩ := hw'
  obtain ⟨W2, hW2⟩ : ∃ W2, W2 = grow (redrawn w3 dq) osq := ⟨_, rfl⟩
  simp only at hw''
  rw [← hW2] at hw''
  have hT2 : Touch nob W W2 := hT3.trans (by rw [hW2]; exact Touch.of_below (below_regrown w3 dq osq))
  subst hw''
  clear hW2 d3 d4 k0 k1 k2 k3 k4 k5 k6
  have k7 := HB2.out _ hT2
  rcases hmk with ⟨h0, rfl⟩ | ⟨rfl, rfl⟩ | ⟨h0, rfl⟩
  all_goals
    go_wp2_with (go_at_call 72; refine (config_times _ _ (by first | with_reducible assumption | omega) (by with_reducible assumption) (by omega) (by with_reducible assumption) _).mono ?_; rintro e w' ⟨rfl, rfl⟩)
    go_ret
    exact ⟨ret_int (by first | exact HM.out.symm | rw [HM.out]), hT2.below⟩

theorem alloc3 (w : World) (o0 o1 o2 : Obj) : (((w.alloc o0).alloc o1).alloc o2).heap[w.heap.size]? = some o0 ∧ (((w.alloc o0).alloc o1).alloc o2).heap[w.heap.size + 1]? = some o1 ∧ (((w.alloc o0).alloc o1).alloc o2).heap[w.heap.size + 1 + 1]? = some o2 := by
  simp only [heap_alloc_if, World.size_alloc]
  refine ⟨?_, ?_, ?_⟩
  · rw [if_neg (by omega), if_neg (by omega)]; simp
  · rw [if_neg (by omega)]; simp
  · simp

set_option maxHeartbeats 1000000 in
theorem config_Marking (c0 c1 c2 c3 c4 c5 c6 k : Int) (hk1 : Hid (k < 9223372036854775808)) (w : World) (hL : Limits w) :
    Calls Tryd.prog 51 #[.agg #[.int .i64 c0, .int .i64 c1, .int .i64 c2, .int .i64 c3, .int .i64 c4, .int .i64 c5, .int .i64 c6], .int .i64 k] w fun e w' => e = .returned (.int .i64 (ifOk (cfgOk c0 c1 c2 c3 c4 c5 c6) (markI c0 c1 c2 c3 c4 c5 k))) ∧ Below w.heap.size w w' := by
  have HL := Lib.hid hL
  have hmf : ∀ (fn : Fn) (first cap : Array Value) (w : World), (Instr.makeFunc fn first cap).run Tryd.prog w = .ok (.func fn first cap) w := fun _ _ _ _ => rfl
  clear hL
  cases hk : cfgOk c0 c1 c2 c3 c4 c5 c6
  · have HK := Lib.hid hk
    clear hk
    go_enter Tryd.func51, Tryd.ntmps51
    go_wp2_with (first | (go_at_call 25; refine (config_Right c0 c1 c2 c3 c4 c5 c6 _ (HL.out.touch (S := nob) (by repeat (first | with_reducible exact Touch.refl _ _ | with_reducible assumption | with_reducible apply Touch.alloc | with_reducible apply Touch.drewN | with_reducible apply Touch.drew | with_reducible refine Touch.setCell ?_ (.inr (by first | omega | (simp; done) | (simp; omega))) _)) (fun x => x))).mono ?_; rintro e w1 ⟨rfl, hb⟩; rw [HK.out]) | (go_at_call 61; go_in))
    go_ret
    exact ⟨rfl, Touch.below (Touch.trans (by repeat (first | with_reducible exact Touch.refl _ _ | with_reducible assumption | with_reducible apply Touch.alloc | with_reducible apply Touch.drewN | with_reducible apply Touch.drew | with_reducible refine Touch.setCell ?_ (.inr (by first | omega | (simp; done) | (simp; omega))) _)) (Touch.of_below hb))⟩
  · have HK := Lib.hid hk
    obtain ⟨a0, a1, _⟩ := alloc3 w (Obj.cells (CfgRow c0 c1 c2 c3 c4 c5 c6) 32) (Obj.cells #[.int .i64 k] 3) (Obj.cells (CfgRow c0 c1 c2 c3 c4 c5 c6) 32)
    have A0 := Lib.hid a0
    have A1 := Lib.hid a1
    clear hk a0 a1
    go_enter Tryd.func51, Tryd.ntmps51
    go_wp2_with (first | (go_at_call 25; refine (config_Right c0 c1 c2 c3 c4 c5 c6 _ (HL.out.touch (S := nob) (by repeat (first | with_reducible exact Touch.refl _ _ | with_reducible assumption | with_reducible apply Touch.alloc | with_reducible apply Touch.drewN | with_reducible apply Touch.drew | with_reducible refine Touch.setCell ?_ (.inr (by first | omega | (simp; done) | (simp; omega))) _)) (fun x => x))).mono ?_; rintro e w1 ⟨rfl, hb⟩; rw [HK.out]) | (go_at_call 61; go_in) | (go_at_call 71; refine (config_Marking1 c0 c1 c2 c3 c4 c5 c6 k hk1 HK.out w1 (HL.out.touch (S := nob) (Touch.trans (by repeat (first | with_reducible exact Touch.refl _ _ | with_reducible assumption | with_reducible apply Touch.alloc | with_reducible apply Touch.drewN | with_reducible apply Touch.drew | with_reducible refine Touch.setCell ?_ (.inr (by first | omega | (simp; done) | (simp; omega))) _)) (Touch.of_below hb)) (fun x => x)) _ _ ((hb.block w.heap.size (by simp only [World.size_alloc]; omega)).trans A0.out) ((hb.block (w.heap.size + 1) (by simp only [World.size_alloc]; omega)).trans A1.out)).mono ?_; rintro e w2 ⟨rfl, hb2⟩))
    go_ret
    exact ⟨rfl, Touch.below (Touch.trans (Touch.trans (by repeat (first | with_reducible exact Touch.refl _ _ | with_reducible assumption | with_reducible apply Touch.alloc | with_reducible apply Touch.drewN | with_reducible apply Touch.drew | with_reducible refine Touch.setCell ?_ (.inr (by first | omega | (simp; done) | (simp; omega))) _)) (Touch.of_below hb)) (Touch.of_below hb2))⟩

theorem markI_bd {c0 c1 c2 c3 c4 c5 c6 k : Int} (hk : cfgOk c0 c1 c2 c3 c4 c5 c6 = true) : 0 ≤ markI c0 c1 c2 c3 c4 c5 k ∧ markI c0 c1 c2 c3 c4 c5 k ≤ big := by
  obtain ⟨⟨n0, n1⟩, ⟨o0, o1⟩, ⟨a0, a1⟩, ⟨p0, p1⟩, _⟩ := cfg_bd hk
  obtain ⟨_, _, _, _, ⟨u4, v4⟩, _⟩ := cfgOk_iff.1 hk
  exact timesI_bd (timesI_bd (by omega) (by omega)).1 (by unfold cfgRound; omega)

set_option maxHeartbeats 1000000 in
theorem config_Cycle1 (c0 c1 c2 c3 c4 c5 c6 k : Int) (hk1 : Hid (k < 9223372036854775808)) (hk : cfgOk c0 c1 c2 c3 c4 c5 c6 = true) (W : World) (hL : Limits W) (b b2 : Nat) (hr : W.heap[b]? = some (Obj.cells (CfgRow c0 c1 c2 c3 c4 c5 c6) 32)) (hr2 : W.heap[b2]? = some (Obj.cells #[.int .i64 k] 3)) :
    Calls Tryd.prog 73 #[.pointer (some ⟨b, 0, none⟩), .pointer (some ⟨b2, 0, none⟩)] W fun e w' => e = .returned (.int .i64 (cycleI c0 c1 c2 c3 c4 c5 k)) ∧ Below W.heap.size W w' := by
  have HL := Lib.hid hL
  have HB := Lib.hid (fun w' ht => cfg_box hr (w' := w') ht)
  have HB2 := Lib.hid (fun w' ht => box1 hr2 (w' := w') ht)
  have hT := Touch.refl nob W
  obtain ⟨k0, k1, k2, k3, k4, k5, k6⟩ := HB.out _ hT
  have k7 := HB2.out _ hT
  clear hr hr2 hL
  obtain ⟨_, ⟨o0, o1⟩, ⟨a0, a1⟩, _, p0, p1⟩ := cfg_bd hk
  obtain ⟨⟨u0, v0⟩, ⟨u1, v1⟩, ⟨u2, v2⟩, ⟨u3, v3⟩, ⟨u4, v4⟩, ⟨u5, v5⟩, u6, v6⟩ := cfgOk_iff.1 hk
  have HM : Hid (cycleI c0 c1 c2 c3 c4 c5 k = if markI c0 c1 c2 c3 c4 c5 k > 4611686018427387904 - timesI (max 0 k) (2 * c0 * (c1 + 8) + 3 * cfgOp c1 c5 + 2 * cfgAnswer c3 c5 + 4 * c2 + 60) then 4611686018427387904 else markI c0 c1 c2 c3 c4 c5 k + timesI (max 0 k) (2 * c0 * (c1 + 8) + 3 * cfgOp c1 c5 + 2 * cfgAnswer c3 c5 + 4 * c2 + 60)) := rfl
  obtain ⟨o, ho⟩ : ∃ n, cfgOp c1 c5 = n := ⟨_, rfl⟩
  obtain ⟨a, ha⟩ : ∃ n, cfgAnswer c3 c5 = n := ⟨_, rfl⟩
  obtain ⟨p, hp⟩ : ∃ n, 2 * c0 * (c1 + 8) = n := ⟨_, rfl⟩
  rw [ho] at o0 o1; rw [ha] at a0 a1; rw [hp] at p0 p1
  rw [ho, ha, hp] at HM
  have q : IntKind.i64.wrap (2 * c0 * (c1 + 8)) = p := by rw [hp]; exact IntWalk.i64_in _ (by omega)
  have CM := Lib.hid (fun w hl => config_Marking c0 c1 c2 c3 c4 c5 c6 k hk1 w hl)
  have CO := Lib.hid (fun w hl => config_OpPicks c0 c1 c2 c3 c4 c5 c6 w hl)
  have CA := Lib.hid (fun w hl => config_AnswerPicks c0 c1 c2 c3 c4 c5 c6 w hl)
  rw [hk] at CM CO CA
  simp only [ifOk] at CM CO CA
  rw [ho] at CO; rw [ha] at CA
  have mb := markI_bd (k := k) hk
  obtain ⟨m, hm⟩ : ∃ m, max 0 k = m := ⟨_, rfl⟩
  have M0 : 0 ≤ m := by omega
  obtain ⟨x, hx⟩ : ∃ x, markI c0 c1 c2 c3 c4 c5 k = x := ⟨_, rfl⟩
  rw [hx] at mb HM CM
  rw [hm] at HM
  obtain ⟨r, hr⟩ : ∃ r, 2 * c0 * (c1 + 8) + 3 * o + 2 * a + 4 * c2 + 60 = r := ⟨_, rfl⟩
  have yb := timesI_bd (a := m) (b := p + 3 * o + 2 * a + 4 * c2 + 60) M0 (by omega)
  obtain ⟨y, hy⟩ : ∃ y, timesI m (p + 3 * o + 2 * a + 4 * c2 + 60) = y := ⟨_, rfl⟩
  rw [hy] at yb HM
  have HT1 : Hid (m < 9223372036854775808) := by show m < _; have := hk1.out; omega
  have HT3 : Hid (p + 3 * o + 2 * a + 4 * c2 + 60 < 9223372036854775808) := by show p + 3 * o + 2 * a + 4 * c2 + 60 < _; omega
  have hmk : (k < 0 ∧ m = 0) ∨ (0 = k ∧ m = 0) ∨ (0 < k ∧ m = k) := by omega
  have HY := Lib.hid hy
  obtain ⟨mb0, mb1⟩ := mb
  obtain ⟨yb0, yb1⟩ := yb
  unfold big at mb1 yb1
  clear hk ho ha hp hm hx hr r hy
  have reg := fun (w3 : World) (hT3 : Touch nob W w3) => HB.out w3 hT3
  go_enter Tryd.func73, Tryd.ntmps73
  go_wp2_with fail
  clear k0 k1 k2 k3 k4 k5 k6
  obtain ⟨r0, r1, r2, r3, r4, r5, r6⟩ := HB.out _ hT
  have k0 := cell_regrown r0
  have k1 := cell_regrown r1
  have k2 := cell_regrown r2
  have k3 := cell_regrown r3
  have k4 := cell_regrown r4
  have k5 := cell_regrown r5
  have k6 := cell_regrown r6
  clear r0 r1 r2 r3 r4 r5 r6
  have lim : ∀ d os, Limits (grow (redrawn W d) os) := fun d os => HL.out.touch (S := nob) (Touch.of_below (below_regrown W d os)) (fun x => x)
  have d3 := fun d os => Calls.regrown_of (CO.out (grow (redrawn W d) os) (lim d os))
  have d4 := fun d os => Calls.regrown_of (CA.out (grow (redrawn W d) os) (lim d os))
  clear lim
  refine wp_region_quiet_below (by kernel_rfl) (by kernel_rfl) ?_
  repeat (go_big_quiet_step (first | exact d3 _ _ | exact d4 _ _))
  refine wpQuiet_nil ?_
  intro W2 hw'
  obtain ⟨⟨dq, osq⟩, hw''⟩ := hw'
  simp only at hw''
  have hT2 : Touch nob W W2 := by rw [hw'']; exact Touch.of_below (below_regrown W dq osq)
  clear hw'' d3 d4 k0 k1 k2 k3 k4 k5 k6 k7
  go_wp2_with fail
  obtain ⟨r0, r1, r2, r3, r4, r5, r6⟩ := HB.out _ hT2
  have k0 := cell_regrown r0
  have k1 := cell_regrown r1
  have k2 := cell_regrown r2
  have k3 := cell_regrown r3
  have k4 := cell_regrown r4
  have k5 := cell_regrown r5
  have k6 := cell_regrown r6
  have k7 := cell_regrown (HB2.out _ hT2)
  clear r0 r1 r2 r3 r4 r5 r6
  have lim : ∀ d os, Limits (grow (redrawn W2 d) os) := fun d os => HL.out.touch (S := nob) (hT2.trans (Touch.of_below (below_regrown W2 d os))) (fun x => x)
  have d3 := fun d os => Calls.regrown_of (CM.out (grow (redrawn W2 d) os) (lim d os))
  clear lim
  have d4 : ∀ d os, Calls Tryd.prog 72 #[.int .i64 m, .int .i64 (p + 3 * o + 2 * a + 4 * c2 + 60)] (grow (redrawn W2 d) os) fun e w'' => e = .returned (.int .i64 y) ∧ ∃ p : Regrown, w'' = grow (redrawn W2 p.d) p.os := fun d os =>
    (config_times m (p + 3 * o + 2 * a + 4 * c2 + 60) M0 HT1 (by omega) HT3 (grow (redrawn W2 d) os)).mono (fun _ _ h => ⟨h.1.trans (by rw [HY.out]), ⟨⟨d, os⟩, h.2.symm⟩⟩)
  have wx : IntKind.i64.wrap (4611686018427387904 - y) = 4611686018427387904 - y := by rw [IntKind.wrap_i64]; omega
  rcases hmk with ⟨h0, rfl⟩ | ⟨rfl, rfl⟩ | ⟨h0, rfl⟩
  all_goals
    refine wp_region_quiet_below (by kernel_rfl) (by kernel_rfl) ?_
    repeat (go_big_quiet_step (first | exact d3 _ _ | exact d4 _ _))
    refine wpQuiet_nil ?_
    intro W3 hw'
    obtain ⟨⟨dr, osr⟩, hw''⟩ := hw'
    simp only at hw''
    have hT4 : Touch nob W W3 := hT2.trans (by rw [hw'']; exact Touch.of_below (below_regrown W2 dr osr))
    clear hw'' d3 d4 k0 k1 k2 k3 k4 k5 k6 k7
    by_cases hc : 4611686018427387904 - y < x
    · rw [if_pos hc] at HM
      go_wp2
      go_ret
      exact ⟨ret_int HM.out.symm, hT4.below⟩
    · rw [if_neg hc] at HM
      have wy : IntKind.i64.wrap (x + y) = x + y := by rw [IntKind.wrap_i64]; omega
      go_wp2
      go_ret
      exact ⟨ret_int HM.out.symm, hT4.below⟩
end Go.Proofs.YtmonmiadcmffgaaDoor
