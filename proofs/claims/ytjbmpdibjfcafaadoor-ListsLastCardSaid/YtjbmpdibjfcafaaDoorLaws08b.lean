/- The law ListsPlay, walked. Conditions: the tables of limits and of sizes read as laid. -/
import Derived.Test.YtjbmpdibjfcafaaDoorLL
import Derived.Test.YtjbmpdibjfcafaaDoorLaws07
import Derived.Test.YtjbmpdibjfcafaaDoorSla
import Derived.Test.YtjbmpdibjfcafaaDoorRef01b
import Derived.Laws.AppendOwnNone
namespace Go.Proofs.YtjbmpdibjfcafaaDoor
open Go.RowKit

variable {W w wr : World} {A : LA} {c : Cf} {s : LS} {H : Nat → List Nat} {bH n : Nat} {v : Nat → Value}
/-- What was put, as the law keeps it: four slices. -/
structure HV (W w : World) (A : LA) (bH : Nat) (H : Nat → List Nat) (v : Nat → Value) : Prop where
  box : w.heap[bH]? = some (.cells #[v 0, v 1, v 2, v 3] 79)
  hi : W.heap.size ≤ bH
  np : bH ∉ A.all
  sl : ∀ k, k < 4 → SlAt w (v k) (adr (H k))
  ap : ∀ k, k < 4 → ∀ b, (v k).ownBlock = some b → W.heap.size ≤ b ∧ b ≠ bH ∧ b ∉ A.all
theorem Touch.wide {w' : World} (h : Touch nob w w') (S : Nat → Prop) : Touch S w w' := h.mono fun _ _ x => x.elim
theorem LT_all {A : LA} {b : Nat} (h : LT A b) : b ∈ A.all := by
  unfold LT at h
  unfold LA.all
  simp only [List.mem_cons, List.not_mem_nil, or_false]
  omega
theorem HV.step {w' : World} (h : HV W w A bH H v) (ht : Touch (LT A) w w') : HV W w' A bH H v :=
  ⟨blk_touch h.box ht (fun x => h.np (LT_all x)), h.hi, h.np, fun k hk => (h.sl k hk).touch ht (fun b hb x => (h.ap k hk b hb).2.2 (LT_all x)), h.ap⟩
theorem HV.old {w' : World} (h : HV W w A bH H v) (ht : Touch nob w w') : HV W w' A bH H v := h.step (ht.mono fun _ _ x => x.elim)
def updV (v : Nat → Value) (k : Nat) (x : Value) : Nat → Value := fun i => if i = k then x else v i
theorem HV.set {k : Nat} {x : Value} {L : List Nat} (h : HV W w A bH H v) (hk : k < 4) (hx : SlAt w x (adr L)) (ha : ∀ b, x.ownBlock = some b → W.heap.size ≤ b ∧ b ≠ bH ∧ b ∉ A.all) : HV W (w.setCell ⟨bH, k, none⟩ x) A bH (updH H k L) (updV v k x) := by
  refine ⟨?_, h.hi, h.np, fun i hi => ?_, fun i hi b hb => ?_⟩
  · rw [set_cells k x h.box]
    rcases (show k = 0 ∨ k = 1 ∨ k = 2 ∨ k = 3 by omega) with rfl | rfl | rfl | rfl <;> rfl
  · unfold updH updV
    split
    · exact hx.touch (touch_set w bH k x) (fun b hb => (ha b hb).2.1)
    · exact (h.sl i hi).touch (touch_set w bH k x) (fun b hb => (h.ap i hi b hb).2.1)
  · unfold updV at hb
    split at hb
    · exact ha b hb
    · exact h.ap i hi b hb
theorem all_ne {A : LA} {b : Nat} (h : b ∉ A.all) : ¬ A.p = b ∧ ¬ A.pa = b ∧ ¬ A.qa = b ∧ ¬ A.pt = b ∧ ¬ A.qt = b ∧ ¬ A.pi = b ∧ ¬ A.qi = b := by
  unfold LA.all at h
  simp only [List.mem_cons, List.not_mem_nil, or_false, not_or] at h
  omega
theorem LL.box {k : Nat} {x : Value} (h : LL W w A c s H) (hi : W.heap.size ≤ bH) (hn : bH ∉ A.all) : LL W (w.setCell ⟨bH, k, none⟩ x) A c s H := by
  have ht := touch_set w bH k x
  obtain ⟨n1, n2, n3, n4, n5, n6, n7⟩ := all_ne hn
  exact ⟨h.ls.touch (h.base.step ht (fun i e => .inr (by rw [e]; exact hi))) ht n1 n2 n3 n4 n5 n6 n7, h.inv, h.laid⟩
theorem HV.cell {k : Nat} (h : HV W w A bH H v) (hk : k < 4) : w.cell? ⟨bH, k, none⟩ = some (v k) ∧ w.frozen? ⟨bH, k, none⟩ = false := by
  have hb := h.box
  refine ⟨?_, by simp [World.frozen?, hb]⟩
  rcases (show k = 0 ∨ k = 1 ∨ k = 2 ∨ k = 3 by omega) with rfl | rfl | rfl | rfl <;> simp [World.cell?, hb]
/-- The law's list with one more at its front. -/
theorem law08_first (x : Int) {u : Value} {xs : List Int} (h : SlAt w u xs) (hl : xs.length ≤ 4096) :
    Calls Tryd.prog 54 #[u, .int .i64 x] w fun e w' => ∃ g cap, e = .returned (.slice (some ⟨g, 0, none⟩) (xs.length + 1) cap) ∧ Touch nob w w' ∧ w.heap.size ≤ g ∧ SlAt w' (.slice (some ⟨g, 0, none⟩) (xs.length + 1) cap) (x :: xs) := by
  obtain ⟨i0, hi, hz0, hz1, hz2⟩ := info_parts info_int2
  have hown0 : (w.alloc (Obj.cells #[.int .i64 x] 3)).ownsRow w.heap.size 3 1 (.slice (some ⟨w.heap.size, 0, none⟩) 1 1) 1 ([x].map (.int .i64)) := ⟨rfl, .inr ⟨w.heap.size, 1, #[.int .i64 x], rfl, Nat.le_refl _, World.alloc_heap_new _ _, Nat.le_refl _, by unfold maxLen; omega, rfl, rfl⟩⟩
  rcases id h with ⟨rfl, rfl⟩ | ⟨g, o, cap, cur, rfl, h1, h2, h3⟩
  · have HO := Lib.hid hown0
    clear hown0 h
    go_enter Tryd.func54, Tryd.ntmps54
    go_wp2_with (at_builtin; refine wpList_append_own_none rfl _ _ 23 rfl w.heap.size 3 i0 1 Tryd.underlying23 hi _ 1 _ rfl HO.out rfl ?_)
    go_ret
    exact ⟨_, _, rfl, by repeat (first | with_reducible exact Touch.refl _ _ | with_reducible assumption | with_reducible apply Touch.alloc | with_reducible apply Touch.drewN | with_reducible apply Touch.drew | with_reducible refine Touch.setCell ?_ (.inr (by first | omega | (simp; done) | (simp; omega))) _), Nat.le_refl _, SlAt.of_owns HO.out⟩
  · obtain ⟨m, hm⟩ : ∃ m, xs.length = m := ⟨_, rfl⟩
    have HC := Lib.hid (fun j z (hj : (xs.map (Value.int .i64))[j]? = some z) => show (w.alloc (Obj.cells #[.int .i64 x] 3)).cell? ((⟨g, o, none⟩ : Addr).add j) = some z by
      obtain ⟨hl, rfl⟩ := List.getElem?_eq_some_iff.1 hj
      simp only [List.length_map] at hl
      rw [Addr.add_lit]
      refine (World.cell?_of_block (a := ⟨g, o + j, none⟩) (Below.heap_alloc _ _ _ (blk_lt h2))).trans ?_
      rw [h.cell hl]
      simp [List.getD_eq_getElem?_getD, hl])
    have HO := Lib.hid hown0
    have HM := Lib.hid hm
    rw [hm] at hl ⊢
    clear hown0 h h1 h2 h3 hm
    go_enter Tryd.func54, Tryd.ntmps54
    go_wp2_with (at_builtin; refine wpList_append_own _ rfl _ _ 23 rfl w.heap.size 3 i0 (.int .i64 0) 1 8 Tryd.underlying23 hi hz0 hz1 hz2 rfl (by decide) _ 1 _ rfl HO.out ⟨g, o, none⟩ m cap (xs.map (.int .i64)) rfl (by rw [List.length_map, HM.out, Nat.mul_one]) HC.out (ints_oneCell _ _) (by unfold maxLen; omega) (by omega) (by simp) ?_; intro v1 w1 hown hgrow _; have HX := Lib.hid (And.intro hown hgrow); clear hown hgrow)
    go_ret
    obtain ⟨hown, hgrow⟩ := HX.out
    have hown : w1.ownsRow w.heap.size 3 1 v1 (1 + m) ((x :: xs).map (.int .i64)) := hown
    obtain ⟨g', cap', rfl, hg, _⟩ := RowAt.of_owns_some hown (by omega)
    rw [Nat.add_comm 1 m] at hown ⊢
    refine ⟨g', cap', rfl, ?_, hg, SlAt.of_owns hown⟩
    exact Touch.grown ((Touch.refl nob w).alloc _) hgrow (fun k hk => .inr (by cases hk; exact Nat.le_refl _))
theorem u8s_of_slice {w : World} {v : Value} {rows : List (List Value)} (h : IsSlice w v [some .u8] rows) : ∃ us : List Int, U8In w v us ∧ ∀ j, j < us.length → 0 ≤ us.getD j 0 ∧ us.getD j 0 < 256 := by
  refine ⟨rows.map intOfRow, ?_, ?_⟩
  · rcases h with ⟨rfl, rfl⟩ | ⟨a, cap, rfl, hc, _, hs, h⟩
    · exact ⟨none, 0, rfl, .inl rfl⟩
    · refine ⟨some a, cap, by simp, ?_⟩
      cases rows with
      | nil => exact .inl rfl
      | cons r0 rs =>
        refine .inr ⟨a.block, a.off, ?_, by simpa using hc, fun j hj => ?_⟩
        · have := hs (by simp) (by simp)
          cases a; simp_all
        · simp only [List.length_map] at hj
          obtain ⟨h1, h2⟩ := h j _ (List.getElem?_eq_getElem hj)
          obtain ⟨n, us, e, hn, hf⟩ := fits_int h1
          have hu := fits_nil hf
          subst hu
          have h3 := h2 0 (by simp)
          rw [e] at h3
          simp only [List.length_cons, List.length_nil, Nat.zero_add, Nat.mul_one, Nat.add_zero] at h3
          rw [h3, List.getD_eq_getElem?_getD, List.getElem?_map, List.getElem?_eq_getElem hj, e]
          rfl
  · intro j hj
    simp only [List.length_map] at hj
    rcases h with ⟨rfl, rfl⟩ | ⟨a, cap, rfl, hc, _, hs, h⟩
    · simp at hj
    · obtain ⟨h1, h2⟩ := h j _ (List.getElem?_eq_getElem hj)
      obtain ⟨n, us, e, hn, hf⟩ := fits_int h1
      have hu := fits_nil hf
      subst hu
      rw [List.getD_eq_getElem?_getD, List.getElem?_map, List.getElem?_eq_getElem hj, e]
      have := bounds_u8 hn
      show 0 ≤ n ∧ n < 256
      exact ⟨this.1, by omega⟩
theorem ll_listS (k m : Nat) (L : List Int) (h : LL W w A c s H) (hk : k < 4) (hL : adr (H k) = L) (hm : L.length = m) (hm1 : m ≤ 4096) :
    Calls Tryd.prog 55 #[.pointer (some ⟨A.p, 0, none⟩), .int .i64 k, .int .i64 10000] w fun e w' => ∃ ao cap, e = .returned (.slice ao m cap) ∧ Touch (LT A) w w' ∧ LL W w' A c s H ∧ IntsIn w' (.slice ao m cap) L :=
  (ll_list 10000 k h hk).mono fun e w' ⟨v, g1, g2, g3, g4⟩ => by
    rw [hL, List.take_of_length_le (by omega)] at g4
    obtain ⟨ao, cap, hv⟩ := g4.shape
    rw [hm] at hv
    exact ⟨ao, cap, by rw [g1, hv], g2, g3, by rw [← hv]; exact g4⟩
/-- What stands behind a slot in its list. -/
def nxtL (L : List Nat) (m : Nat) : Int := if m < L.length then ((L.getD m 0 : Nat) : Int) + 1 else 0
theorem Thr.first {ws : List Int} {a : Int} {L : List Nat} (h : Thr ws a L) : a = nxtL L 0 := by
  unfold nxtL
  cases L with
  | nil => exact h
  | cons j L => rw [if_pos (by simp)]; exact h.1
theorem adr_getD {L : List Nat} {i : Nat} (h : i < L.length) : (adr L).getD i 0 = ((L.getD i 0 : Nat) : Int) + 1 := by
  simp [adr, List.getD_eq_getElem?_getD, h]
set_option maxRecDepth 20000 in
set_option maxHeartbeats 8000000 in
theorem law_ListsPlay {w : World} (a0 : Int) (_ : (Lit.int .i64 a0).wf = true) (a1 : Int) (_ : (Lit.int .i64 a1).wf = true) (a2 : Int) (_ : (Lit.int .i64 a2).wf = true) (a3 : Int) (_ : (Lit.int .i64 a3).wf = true) (a4 : Int) (_ : (Lit.int .i64 a4).wf = true) (a5 : Int) (_ : (Lit.int .i64 a5).wf = true) (a6 : Int) (_ : (Lit.int .i64 a6).wf = true) (cl : Value) (crows : List (List Value)) (hcl : IsSlice w cl [some .u8] crows) (l : Value) (rows : List (List Value)) (hl : IsSlice w l [none, some .i64] rows) (hLim : Limits w) (hS : Sizes w) :
    Calls Tryd.prog 12 #[CfgV a0 a1 a2 a3 a4 a5 a6, cl, l] w fun e w' => e = .returned (.bool true) ∧ Below w.heap.size w w' := by
  obtain ⟨us, hU, hub⟩ := u8s_of_slice hcl
  obtain ⟨N, hI, -⟩ := rows_of_slice hl (by simp)
  obtain ⟨ao, cap, rfl, hI⟩ := hI
  have HI := Lib.hid hI
  have HU := Lib.hid (And.intro hU hub)
  have HL := Lib.hid (Laid.mk hLim hS)
  clear hLim hS hcl hl hI hU hub
  obtain ⟨n, hn, hn1, hn4⟩ := little_n a0 a1 a2 a3 a4 a5 a6
  obtain ⟨c, hc⟩ : ∃ c, little ⟨a0, a1, a2, a3, a4, a5, a6⟩ = c := ⟨_, rfl⟩
  have hok : c.ok = true := by rw [← hc]; exact little_ok _
  have hw36 : c.c1 ≤ 36 := by rw [← hc]; simp only [little]; omega
  have hlit := ref02_Little ⟨a0, a1, a2, a3, a4, a5, a6⟩
  rw [hc] at hn hlit
  have HC := Lib.hid (And.intro hn (And.intro hok (And.intro hlit hw36)))
  clear hn hok hlit hc hw36
  go_enter Tryd.func12, Tryd.ntmps12
  go_wp2_with fail
  obtain ⟨W, hW⟩ : ∃ W, W = w.alloc (Obj.cells (CfgRow a0 a1 a2 a3 a4 a5 a6) 49) := ⟨_, rfl⟩
  have hT : Touch nob w W := by rw [hW]; repeat (first | with_reducible exact Touch.refl _ _ | with_reducible assumption | with_reducible apply Touch.alloc | with_reducible apply Touch.drewN | with_reducible apply Touch.drew | with_reducible refine Touch.setCell ?_ (.inr (by first | omega | (simp; done) | (simp; omega))) _)
  have hbx : W.heap[w.heap.size]? = some (Obj.cells (CfgRow a0 a1 a2 a3 a4 a5 a6) 49) := by rw [hW]; exact World.alloc_heap_new w _
  obtain ⟨b0, hb0⟩ : ∃ b, b = w.heap.size := ⟨_, rfl⟩
  rw [← hW, ← hb0]
  rw [← hb0] at hbx
  refine (HC.out.2.2.1 W).mono ?_
  rintro e w1 ⟨rfl, hT1⟩
  have hb1 := blk_touch hbx hT1 (fun x => x)
  obtain ⟨y0, y1, y2, y3, y4, y5, y6⟩ := cfg_box hb1 (Touch.refl _ _)
  have f0 : ∀ j, w1.frozen? ⟨b0, j, none⟩ = false := fun j => by simp [World.frozen?, hb1]
  have g0 := f0 0; have g1 := f0 1; have g2 := f0 2; have g3 := f0 3; have g4 := f0 4; have g5 := f0 5; have g6 := f0 6
  obtain ⟨W3, hW3⟩ : ∃ W3, W3 = set7 w1 b0 (.int .i64 c.c0) (.int .i64 c.c1) (.int .i64 c.c2) (.int .i64 c.c3) (.int .i64 c.c4) (.int .i64 c.c5) (.int .i64 c.c6) := ⟨_, rfl⟩
  have hc3 : W3.heap[b0]? = some (Obj.cells (CfgRow c.c0 c.c1 c.c2 c.c3 c.c4 c.c5 c.c6) 49) := by rw [hW3]; exact set7_at _ _ _ _ _ _ _ _ hb1
  have hT3 : Touch nob w W3 := by rw [hW3]; exact set7_touch _ _ _ _ _ _ _ (by omega) (hT.trans hT1)
  have H3 := Lib.hid (And.intro hT3 hc3)
  clear hT hbx hT1 hb1 f0 hc3 hT3 hW hb0
  by_cases h100 : N ≤ 100
  · go_wp2_with (go_at_call 49; fail)
    simp only [set7] at hW3
    rw [← hW3]
    clear hW3 y0 y1 y2 y3 y4 y5 y6 g0 g1 g2 g3 g4 g5 g6
    refine (law08_awake W3 (HL.out.old H3.out.1)).mono ?_
    rintro e w4 ⟨rfl, hT4⟩
    obtain ⟨y0, y1, y2, y3, y4, y5, y6⟩ := cfg_box H3.out.2 hT4
    have HT4 := Lib.hid (H3.out.1.trans hT4)
    clear hT4
    go_wp2_with (go_at_call 50; fail)
    refine (law08_made us _ (HU.out.1.old HT4.out) HU.out.2 HC.out.2.1 HC.out.1 (HL.out.old HT4.out)).mono ?_
    rintro e w5 ⟨A, z, rfl, hz, -, h5⟩
    obtain ⟨ks, hks⟩ : ∃ ks, asg us n (min us.length 10) = ks := ⟨_, rfl⟩
    have hc36 := HC.out.2.2.2
    obtain ⟨⟨u0, v0⟩, ⟨u1, v1⟩, -⟩ := cfgOk_iff.1 HC.out.2.1
    have hn0 := HC.out.1
    have hz1 : z ≤ 144 := by
      have := (mul_bd (a := c.c0) (b := c.c1) (A := 4) (B := 36) (by omega) (by omega) (by omega) (by omega)).2
      omega
    rw [hks] at h5
    have H5 : Hid (LL w4 w5 A c ⟨List.replicate z 0, ks, fun _ => false, fun _ => 0, fun _ => 0⟩ (fun _ => [])) := ⟨h5, LInv.start _ _ (by rw [List.length_replicate]; omega), HL.out.old HT4.out⟩
    clear hz h5 hks hc36 u0 v0 u1 v1 hn0 y0 y1 y2 y3 y4 y5 y6
    go_wp2_with fail
    obtain ⟨W6, hW6⟩ : ∃ W6, W6 = w5.alloc (Obj.cells #[.slice none 0 0, .slice none 0 0, .slice none 0 0, .slice none 0 0] 79) := ⟨_, rfl⟩
    obtain ⟨bH, hbH⟩ : ∃ b, b = w5.heap.size := ⟨_, rfl⟩
    rw [← hW6, ← hbH]
    have hT6 : Touch nob w5 W6 := by rw [hW6]; repeat (first | with_reducible exact Touch.refl _ _ | with_reducible assumption | with_reducible apply Touch.alloc | with_reducible apply Touch.drewN | with_reducible apply Touch.drew | with_reducible refine Touch.setCell ?_ (.inr (by first | omega | (simp; done) | (simp; omega))) _)
    have H6 : Hid (∃ s H v, s.ks = ks ∧ s.ws.length = z ∧ LL w4 W6 A c s H ∧ HV w4 W6 A bH H v) := by
      refine ⟨_, _, fun _ => .slice none 0 0, rfl, List.length_replicate, H5.out.old hT6, ?_, ?_, ?_, fun k _ => .inl ⟨rfl, rfl⟩, fun k _ b hb => by cases hb⟩
      · rw [hW6, hbH]; exact World.alloc_heap_new w5 _
      · rw [hbH]; exact H5.out.base.size
      · intro hm
        have h1 := H5.out.ls.lt
        unfold LA.all at hm
        simp only [List.mem_cons, List.not_mem_nil, or_false] at hm
        omega
    clear hW6 hbH hT6 H5
    go_loopw [11] (fun i wr => ∃ j : Nat, j ≤ N ∧ i = .int .i64 j ∧ Hid (∃ s H v, s.ks = ks ∧ s.ws.length = z ∧ LL w4 wr A c s H ∧ HV w4 wr A bH H v)) (fun i _ => N - (intOf i).toNat)
    case atStart => exact ⟨0, Nat.zero_le _, rfl, H6⟩
    case round =>
      obtain ⟨j, hj, rfl, HR⟩ := hrel
      clear H6
      obtain ⟨s, H, v, hks, hzz, hl, hv⟩ := HR.out
      clear HR
      have HP := Lib.hid (And.intro hks (And.intro hzz (And.intro hl hv)))
      by_cases hlt : j < N
      · obtain ⟨b, o, hao, hcap, hmx, hcells⟩ := HI.out.resolve_left (by omega)
        subst hao
        obtain ⟨r, hfit, hcx⟩ := hcells j hlt
        obtain ⟨t, us1, rfl, hf1⟩ := fits_bool hfit
        obtain ⟨x, us2, rfl, _, hf2⟩ := fits_int hf1
        obtain rfl := fits_nil hf2
        have y0 := hcx 0 (by simp)
        have y1 := hcx 1 (by simp)
        simp only [List.length_cons, List.length_nil, Nat.zero_add, Nat.reduceAdd, Nat.add_zero, List.getElem?_cons_zero, List.getElem?_cons_succ, ← Nat.add_assoc] at y0 y1
        have hTr := HT4.out.trans hl.base
        have z0 := (hTr.cell (cell_lt y0) (fun x => x)).trans y0
        have z1 := (hTr.cell (cell_lt y1) (fun x => x)).trans y1
        have hb : (j : Int) < (N : Int) := by omega
        clear hcx hcells y0 y1 hfit hf1 hf2 hl hv hks hzz hTr
        cases t
        · by_cases hx : isCls x = true
          · obtain ⟨hx0, hx1⟩ := isCls_iff.1 hx
            obtain ⟨k, rfl⟩ := Int.eq_ofNat_of_zero_le hx0
            have hk : k < 4 := by omega
            have hk4 : (k : Int) < 4 := by omega
            have hk0 : ¬ (k : Int) < 0 := by omega
            have hk3 : ¬ (3 : Int) < (k : Int) := by omega
            cases hH : H k with
            | nil =>
              go_wp2_with (go_at_call 51; fail)
              refine (ll_Take_none k HP.out.2.2.1 hk hH).mono ?_
              rintro e w' ⟨rfl, rfl⟩
              have hsl := HP.out.2.2.2.sl k hk
              rw [hH] at hsl
              obtain ⟨cv, fv⟩ := HP.out.2.2.2.cell hk
              obtain ⟨ao', cap', e', -⟩ := hsl.len
              rw [e'] at cv
              clear hsl e' hH
              go_wp2
              go_roundw
              case rel => exact ⟨j + 1, by omega, by go_num, s, H, v, HP.out⟩
              case measure => simp [intOf]; omega
            | cons j0 L =>
              have hm4 := (HP.out.2.2.1.inv.len_le hk)
              rw [HP.out.2.1, hH] at hm4
              obtain ⟨m, hm⟩ : ∃ m, (j0 :: L).length = m := ⟨_, rfl⟩
              have hm0 : 0 < m := by rw [← hm]; simp
              have hmz : ¬ (m : Int) = 0 := by omega
              rw [hm] at hm4
              have HH := Lib.hid (And.intro hH hm)
              clear hH hm
              go_wp2_with (go_at_call 51; fail)
              refine (ll_Take_ok j0 k L HP.out.2.2.1 hk HH.out.1).mono ?_
              rintro e w' ⟨rfl, hT', hl'⟩
              have hv' := HP.out.2.2.2.step hT'
              have hsl := hv'.sl k hk
              have hap := hv'.ap k hk
              rw [HH.out.1] at hsl
              obtain ⟨cv, fv⟩ := hv'.cell hk
              rcases id hsl with ⟨_, h0⟩ | ⟨g, o', cap', cur, e', h1, h2, h3⟩
              · cases h0
              rw [show (adr (j0 :: L)).length = m by rw [List.length_map]; exact HH.out.2] at e' h1 h3
              rw [e'] at cv hsl hap
              have c0 : w'.cell? ⟨g, o', none⟩ = some (.int .i64 (j0 + 1)) := by
                have := hsl.cell (j := 0) (by simp [adr])
                simpa [adr] using this
              have hj0 : j0 < s.ws.length := (HP.out.2.2.1.inv.thr k hk).lt j0 (by rw [HH.out.1]; exact List.mem_cons_self ..)
              have HHas := Lib.hid (lists_Has ((j0 : Int) + 1) hl'.ls)
              rw [show hasB (s.tak j0 k).M ((s.tak j0 k).ws.length + 1) ((j0 : Int) + 1) = false from (hl'.has_nat (j := j0) hj0).trans (by show (if j0 + 1 = j0 + 1 then false else s.M (j0 + 1)) = false; rw [if_pos rfl])] at HHas
              have HQ := Lib.hid (And.intro hl' (And.intro hv' (And.intro hsl hap)))
              clear e' h1 h2 h3 hT' hl' hv' hsl hap hj0
              go_wp2_with (go_at_call 52; fail)
              refine HHas.out.mono ?_
              rintro e w2 ⟨rfl, rfl⟩
              go_wp2
              go_roundw
              case rel =>
                refine ⟨j + 1, by omega, by go_num, s.tak j0 k, updH H k L, updV v k (.slice (if cap' = 1 then some ⟨g, o', none⟩ else some ⟨g, o' + 1, none⟩) (m - 1) (cap' - 1)), HP.out.1, HP.out.2.1, ?_, ?_⟩
                · obtain ⟨hl', hv', -, -⟩ := HQ.out
                  exact hl'.box hv'.hi hv'.np
                · obtain ⟨-, hv', hsl, hap⟩ := HQ.out
                  have hcp : L = [] ∨ cap' ≠ 1 := by
                    cases L with
                    | nil => exact .inl rfl
                    | cons y L =>
                      right
                      obtain ⟨_, _, e1, h1⟩ := hsl.len
                      injection e1 with e2 e3 e4
                      simp [adr] at e3 h1
                      omega
                  have h2 : SlAt w' (.slice (if cap' = 1 then some ⟨g, o', none⟩ else some ⟨g, o' + 1, none⟩) (m - 1) (cap' - 1)) (adr L) := by
                    have hsl' : SlAt w' (.slice (some ⟨g, o', none⟩) m cap') (((j0 : Int) + 1) :: adr L) := hsl
                    split
                    · rename_i hc1
                      exact hsl'.tail rfl (.inl (by rcases hcp with h | h
                                                    · rw [h]; rfl
                                                    · exact absurd hc1 h))
                    · exact hsl'.tail rfl (.inr rfl)
                  refine hv'.set hk h2 (fun b hb => hap b ?_)
                  split at hb <;> exact hb
              case measure => simp [intOf]; omega
          · have hx' : isCls x = false := by simpa using hx
            have hxx : x < 0 ∨ (¬ x < 0 ∧ 3 < x) := by
              by_cases h0 : x < 0
              · exact .inl h0
              · refine .inr ⟨h0, ?_⟩
                by_cases h3 : 3 < x
                · exact h3
                · exact absurd (isCls_iff.2 ⟨by omega, by omega⟩) hx
            have HX := Lib.hid hx'
            clear hx hx'
            rcases hxx with hd | ⟨hd, hd'⟩
            all_goals
              go_wp2_with (go_at_call 51; fail)
              refine (lists_Take_arg x _ HX.out wr).mono ?_
              rintro e w' ⟨rfl, rfl⟩
              go_wp2
              go_roundw
              case rel => exact ⟨j + 1, by omega, by go_num, s, H, v, HP.out⟩
              case measure => simp [intOf]; omega
        · go_wp2_with (go_at_call 42; fail)
          obtain ⟨ct, hbt⟩ := HP.out.2.2.1.ls.tb
          refine (blk_Owner x hbt HP.out.2.2.1.lay.lim HP.out.2.2.1.lay.siz).mono ?_
          rintro e w2 ⟨rfl, hT2⟩
          have HP2 := Lib.hid (And.intro HP.out.1 (And.intro HP.out.2.1 (And.intro (HP.out.2.2.1.old hT2) (HP.out.2.2.2.old hT2))))
          have z1 := (hT2.cell (cell_lt z1) (fun x => x)).trans z1
          clear hbt hT2 z0
          cases ho : ownB c s.ks x
          · have HO := Lib.hid ho
            clear ho
            rw [show owV c s.ks x false = .tuple #[.int .i64 0, .int .i64 0, .bool false] from rfl]
            go_wp2_with (go_at_call 53; fail)
            refine (ll_Put_no x HP2.out.2.2.1 HO.out).mono ?_
            rintro e w3 ⟨rfl, hT3, h3⟩
            have HHas := Lib.hid (lists_Has x h3.ls)
            rw [h3.has_no HO.out] at HHas
            have HP3 := Lib.hid (And.intro HP.out.1 (And.intro HP.out.2.1 (And.intro h3 (HP2.out.2.2.2.step hT3))))
            clear hT3 h3 z1
            go_wp2_with (go_at_call 52; fail)
            refine HHas.out.mono ?_
            rintro e w4 ⟨rfl, rfl⟩
            go_wp2
            go_roundw
            case rel => exact ⟨j + 1, by omega, by go_num, s, H, v, HP3.out⟩
            case measure => simp [intOf]; omega
          · obtain ⟨j0, k, rfl, hj0, hk, hcl, ho'⟩ := HP2.out.2.2.1.slot ho
            obtain ⟨X, hX⟩ : ∃ X, (((j0 : Int) + 1) - 1) / c.c1 = X := ⟨_, rfl⟩
            have hc2 := hcl
            unfold clsA at hc2
            rw [hX] at hc2
            rw [show owV c s.ks ((j0 : Int) + 1) true = .tuple #[.int .i64 X, .int .i64 k, .bool true] by unfold owV; rw [hX, hc2]]
            have hk4 : (k : Int) < 4 := by omega
            have HO := Lib.hid (And.intro hj0 (And.intro ho' (And.intro hk hcl)))
            clear hX hc2 ho hj0 ho' hcl
            by_cases hm : j0 ∈ H k
            · go_wp2_with (go_at_call 53; fail)
              refine (ll_Put_in j0 k HP2.out.2.2.1 HO.out.1 HO.out.2.1 hk HO.out.2.2.2 hm).mono ?_
              rintro e w3 ⟨rfl, hT3, h3⟩
              have HP3 := Lib.hid (And.intro HP.out.1 (And.intro HP.out.2.1 (And.intro h3 (HP2.out.2.2.2.step hT3))))
              obtain ⟨cv, fv⟩ := HP3.out.2.2.2.cell hk
              have hl4 : (adr (H k)).length ≤ 1048576 := by rw [List.length_map]; exact (h3.m_le hk).2
              have HIn := Lib.hid (ref01_In (v k) (adr (H k)) ((j0 : Int) + 1) (HP3.out.2.2.2.sl k hk).ints hl4)
              rw [decide_eq_true (show ((j0 : Int) + 1) ∈ adr (H k) from List.mem_map.2 ⟨j0, hm, rfl⟩)] at HIn
              obtain ⟨ao', cap', e', -⟩ := (HP3.out.2.2.2.sl k hk).len
              obtain ⟨m, hm'⟩ : ∃ m, (adr (H k)).length = m := ⟨_, rfl⟩
              rw [e', hm'] at cv HIn
              clear hT3 h3 z1 hm hl4 e' hm'
              go_wp2_with (go_at_call 30; fail)
              refine HIn.out.mono ?_
              rintro e w4 ⟨rfl, hT4⟩
              have HP4 := Lib.hid (And.intro HP.out.1 (And.intro HP.out.2.1 (And.intro (HP3.out.2.2.1.old hT4) (HP3.out.2.2.2.old hT4))))
              clear hT4 cv fv
              go_wp2
              go_roundw
              case rel => exact ⟨j + 1, by omega, by go_num, s, H, v, HP4.out⟩
              case measure => simp [intOf]; omega
            · go_wp2_with (go_at_call 53; fail)
              refine (ll_Put_ok j0 k HP2.out.2.2.1 HO.out.1 HO.out.2.1 hk HO.out.2.2.2 hm).mono ?_
              rintro e w3 ⟨rfl, hT3, h3⟩
              have hv3 := HP2.out.2.2.2.step hT3
              obtain ⟨cv, fv⟩ := hv3.cell hk
              have hl4 : (H k).length ≤ 1048576 := (HP2.out.2.2.1.m_le hk).2
              have hl5 := HP2.out.2.2.1.inv.len_le hk
              rw [HP.out.2.1] at hl5
              have HIn := Lib.hid (ref01_In (v k) (adr (H k)) ((j0 : Int) + 1) (hv3.sl k hk).ints (by rw [List.length_map]; exact hl4))
              rw [decide_eq_false (show ¬ ((j0 : Int) + 1) ∈ adr (H k) from fun hh => by
                obtain ⟨y, h1, h2⟩ := List.mem_map.1 hh
                have : y = j0 := by omega
                exact hm (this ▸ h1))] at HIn
              obtain ⟨ao', cap', e', -⟩ := (hv3.sl k hk).len
              have hsl := hv3.sl k hk
              rw [e'] at cv HIn hsl
              obtain ⟨m, hm'⟩ : ∃ m, (adr (H k)).length = m := ⟨_, rfl⟩
              rw [hm'] at cv HIn hsl
              rw [List.length_map] at hm'
              rw [hm'] at hl5
              have HHas := Lib.hid (fun w4 (ht : Touch nob w3 w4) => lists_Has ((j0 : Int) + 1) (h3.old ht).ls)
              have HM : Hid (hasB (s.put j0 k).M ((s.put j0 k).ws.length + 1) ((j0 : Int) + 1) = true) := (h3.has_nat (j := j0) (by show j0 < (s.ws.set j0 _).length; rw [List.length_set]; exact HO.out.1)).trans (by show (if j0 + 1 = j0 + 1 then true else s.M (j0 + 1)) = true; rw [if_pos rfl])
              have HQ := Lib.hid (And.intro h3 (And.intro hv3 (And.intro hsl hm')))
              clear hT3 h3 hv3 z1 hm hl4 e' hsl hm'
              go_wp2_with (go_at_call 30; fail)
              refine HIn.out.mono ?_
              rintro e w4 ⟨rfl, hT4⟩
              have HT4' := Lib.hid hT4
              have cv := (hT4.cell (cell_lt cv) (fun x => x)).trans cv
              have fv := (HQ.out.2.1.old hT4).cell hk
              obtain ⟨-, fv⟩ := fv
              clear hT4
              go_wp2_with (go_at_call 52; fail)
              refine (HHas.out w4 HT4'.out).mono ?_
              rintro e w5 ⟨rfl, rfl⟩
              rw [HM.out]
              go_wp2_with (go_at_call 54; fail)
              have hfst := law08_first ((j0 : Int) + 1) (HQ.out.2.2.1.old HT4'.out) (by rw [List.length_map, HQ.out.2.2.2]; omega)
              rw [List.length_map, HQ.out.2.2.2] at hfst
              refine hfst.mono ?_
              rintro e w5 ⟨g, cp, rfl, hT5, hg, hsl5⟩
              have HQ5 := Lib.hid (And.intro hT5 (And.intro hg hsl5))
              have cv := (hT5.cell (cell_lt cv) (fun x => x)).trans cv
              have fv := ((HQ.out.2.1.old HT4'.out).old hT5).cell hk
              obtain ⟨-, fv⟩ := fv
              clear hfst hT5 hg hsl5
              go_wp2
              go_roundw
              case rel =>
                have hv5 := (HQ.out.2.1.old HT4'.out).old HQ5.out.1
                refine ⟨j + 1, by omega, by go_num, s.put j0 k, updH H k (j0 :: H k), updV v k (.slice (some ⟨g, 0, none⟩) (m + 1) cp), HP.out.1, ?_, ?_, ?_⟩
                · show (s.ws.set j0 _).length = z
                  rw [List.length_set]
                  exact HP.out.2.1
                · exact ((HQ.out.1.old HT4'.out).old HQ5.out.1).box hv5.hi hv5.np
                · refine hv5.set hk HQ5.out.2.2 (fun b hb => ?_)
                  obtain rfl : g = b := by cases hb; rfl
                  have h1 := HQ5.out.2.1
                  have h2 := ((HQ.out.1.old HT4'.out).ls).lt
                  have h3 := ((HQ.out.1.old HT4'.out).base).size
                  have h4 := blk_lt (HQ.out.2.1.old HT4'.out).box
                  refine ⟨by omega, by omega, fun hm => ?_⟩
                  unfold LA.all at hm
                  simp only [List.mem_cons, List.not_mem_nil, or_false] at hm
                  omega
              case measure => simp [intOf]; omega
      · obtain rfl : j = N := by omega
        clear hj hlt HI hks hzz hl hv
        go_wp2_with fail
        go_loopw [20] (fun i wr => ∃ k : Nat, k ≤ 4 ∧ i = .int .i64 k ∧ Hid (LL w4 wr A c s H ∧ HV w4 wr A bH H v)) (fun i _ => 4 - (intOf i).toNat)
        case atStart => exact ⟨0, Nat.zero_le _, rfl, HP.out.2.2⟩
        case round =>
          obtain ⟨k, hk4, rfl, HR⟩ := hrel
          by_cases hk : k < 4
          · have hki : (k : Int) < 4 := by omega
            obtain ⟨m, hm⟩ : ∃ m, (H k).length = m := ⟨_, rfl⟩
            obtain ⟨L, hL⟩ : ∃ L, adr (H k) = L := ⟨_, rfl⟩
            have hLm : L.length = m := by rw [← hL, List.length_map]; exact hm
            have hm4 : m ≤ 144 := by
              have h1 := HR.out.1.inv.len_le hk
              rw [HP.out.2.1, hm] at h1
              omega
            obtain ⟨ao', cap', e', -⟩ := (HR.out.2.sl k hk).len
            rw [hL, hLm] at e'
            have HM := Lib.hid (And.intro hm (And.intro hL (And.intro hLm e')))
            have HMk := Lib.hid (show s.m k = (m : Int) by rw [(HR.out.1.m_le hk).1, hm])
            have HS := Lib.hid (fun w' (ht : Touch (LT A) wr w') => show w'.cell? ⟨bH, k, none⟩ = some (.slice ao' m cap') from by
              have := ((HR.out.2.step ht).cell hk).1
              rwa [HM.out.2.2.2] at this)
            have HSl := Lib.hid (fun w' (ht : Touch (LT A) wr w') => show IntsIn w' (.slice ao' m cap') L from by
              have := ((HR.out.2.step ht).sl k hk).ints
              rwa [HM.out.2.2.2, HM.out.2.1] at this)
            have hT0 := Touch.refl (LT A) wr
            clear hm hL hLm e'
            go_wp2_with fail
            go_region_held3 (fun w' => w'.cell? ⟨bH, k, none⟩ = some (.slice ao' m cap')) (first | exact HS.out _ (by first | assumption | exact hT0.drew)) (first
              | (go_at_call 56; refine (lists_Len k hk H2.out.ls).mono ?_; rintro e w3 ⟨rfl, rfl⟩; rw [HMk.out])
              | (go_at_call 28; refine (ref01_Same _ _ L _ HI1.out (HSl.out _ hT1) (by rw [HM.out.2.2.1]; omega)).mono ?_; rintro e w2 ⟨rfl, hT2'⟩; have hT2 := hT1.trans (hT2'.wide (LT A)); have H2 := Lib.hid (H1.out.old hT2'); clear hT2')
              | (go_at_call 55; refine (ll_listS k m L (HR.out.1.old (Touch.drew (Touch.refl _ _))) hk HM.out.2.1 HM.out.2.2.1 (by omega)).mono ?_; rintro e w1 ⟨ao1, cap1, rfl, hT1', h1, hI1⟩; have hT1 := hT0.drew.trans hT1'; have H1 := Lib.hid h1; have HI1 := Lib.hid hI1; clear hT1' h1 hI1))
            have HQ := Lib.hid (And.intro H2.out (HR.out.2.step hT2))
            have cv := HS.out _ hT2
            have HFst := Lib.hid ((HR.out.1.inv.thr k hk).first)
            have HNx := Lib.hid (show nxtL (H k) m = 0 by unfold nxtL; rw [if_neg (by rw [HM.out.1]; exact Nat.lt_irrefl _)])
            clear hT0 hT1 hT2 H1 HI1 H2 HS HSl HR
            go_wp2_with fail
            go_loopw [21, 22] (fun nx i wr => ∃ (q : Nat) (x : Int), q ≤ m ∧ i = .int .i64 x ∧ x + 1 = q ∧ nx = .int .i64 (nxtL (H k) q) ∧ Hid (LL w4 wr A c s H ∧ HV w4 wr A bH H v)) (fun _ i _ => (intOf i + 1).toNat)
            case atStart => exact ⟨m, (m : Int) - 1, Nat.le_refl _, rfl, by omega, by rw [HNx.out], HQ.out⟩
            case round =>
              obtain ⟨q, x, hqm, rfl, hxq, rfl, HR⟩ := hrel
              clear cv HQ
              cases q with
              | zero =>
                obtain rfl : x = -1 := by omega
                go_wp2_with (go_at_call 59; fail)
                refine (lists_First k hk HR.out.1.ls).mono ?_
                rintro e w7 ⟨rfl, rfl⟩
                rw [HFst.out]
                obtain ⟨fv, hfv⟩ : ∃ y, nxtL (H k) 0 = y := ⟨_, rfl⟩
                rw [hfv]
                clear hfv
                go_wp2
                go_roundw
                case rel => exact ⟨k + 1, by omega, by go_num, HR.out⟩
                case measure => simp [intOf]; omega
              | succ q =>
                obtain rfl : x = q := by omega
                have hsl := HR.out.2.sl k hk
                rw [HM.out.2.2.2, HM.out.2.1] at hsl
                have cv := (HR.out.2.cell hk).1
                rw [HM.out.2.2.2] at cv
                rcases id hsl with ⟨_, h0⟩ | ⟨g, o1, cap1, cur, e1, h1, h2, h3⟩
                · have := HM.out.2.2.1
                  rw [h0] at this
                  simp at this
                  omega
                injection e1 with e2 e3 e4
                subst e2
                have cq := hsl.cell (j := q) (by rw [HM.out.2.2.1]; omega)
                rw [← HM.out.2.1, adr_getD (by rw [HM.out.1]; omega)] at cq
                have hnth := (HR.out.1.inv.thr k hk).nth (i := q) (by rw [HM.out.1]; omega)
                rw [HM.out.1] at hnth
                have hnq : nxtL (H k) q = (((H k).getD q 0 : Nat) : Int) + 1 := by unfold nxtL; rw [if_pos (by rw [HM.out.1]; omega)]
                have hnq1 : nxtL (H k) (q + 1) = if q + 1 < m then (((H k).getD (q + 1) 0 : Nat) : Int) + 1 else 0 := by unfold nxtL; rw [HM.out.1]
                rw [← hnq1] at hnth
                obtain ⟨j1, hj1⟩ : ∃ j1, (H k).getD q 0 = j1 := ⟨_, rfl⟩
                rw [hj1] at cq hnth hnq
                have HNq := Lib.hid (And.intro hnth hnq)
                obtain ⟨ny, hny⟩ : ∃ y, nxtL (H k) (q + 1) = y := ⟨_, rfl⟩
                rw [hny] at HNq ⊢
                have hq0 : (0 : Int) ≤ (q : Int) := by omega
                have hqm' : (q : Int) < (m : Int) := by omega
                have HKeep := Lib.hid (fun w' (ht : Touch (LT A) wr w') => show w'.cell? ⟨bH, k, none⟩ = some (.slice (some ⟨g, o1, none⟩) m cap') ∧ w'.cell? ⟨g, o1 + q, none⟩ = some (.int .i64 ((j1 : Int) + 1)) from by
                  refine ⟨(ht.cell (blk_lt HR.out.2.box) (fun x => HR.out.2.np (LT_all x))).trans cv, (ht.cell (cell_lt cq) (fun x => ?_)).trans cq⟩
                  exact (HR.out.2.ap k hk g (by rw [HM.out.2.2.2]; rfl)).2.2 (LT_all x))
                clear e3 e4 h1 h2 h3 hsl hnth hnq hnq1 hj1 hny
                go_wp2_with (go_at_call 57; fail)
                refine (ll_Load j1 HR.out.1 HNq.out.1.1).mono ?_
                rintro e w7 ⟨rfl, hT7, h7⟩
                obtain ⟨cv7, cq7⟩ := HKeep.out _ hT7
                have H7 := Lib.hid (And.intro h7 (HR.out.2.step hT7))
                have HX := Lib.hid (ll_Next j1 h7 HNq.out.1.1)
                rw [HNq.out.1.2.1, HNq.out.1.2.2] at HX
                obtain ⟨wd, hwd⟩ : ∃ y, s.ws.getD j1 0 = y := ⟨_, rfl⟩
                rw [hwd] at HX ⊢
                clear hT7 h7 hwd cv cq
                go_wp2_with (go_at_call 58; fail)
                refine HX.out.mono ?_
                rintro e w8 ⟨rfl, rfl⟩
                go_wp2
                go_roundw
                case rel => exact ⟨q, (q : Int) - 1, by omega, rfl, by omega, by rw [HNq.out.2], H7.out⟩
                case measure => simp [intOf]
          · obtain rfl : k = 4 := by omega
            go_wp2_with (go_at_call 56; fail)
            refine (lists_Len_no 4 _ (.inr (by decide)) _).mono ?_
            rintro e w7 ⟨rfl, rfl⟩
            go_wp2_with (go_at_call 59; fail)
            refine (lists_First_no (-1) _ (.inr (by decide)) _).mono ?_
            rintro e w7 ⟨rfl, rfl⟩
            go_wp2
            go_ret
            exact ⟨rfl, (HT4.out.trans HR.out.1.base).below⟩
  · go_wp2_with (go_at_call 49; fail)
    simp only [set7] at hW3
    rw [← hW3]
    clear hW3 y0 y1 y2 y3 y4 y5 y6 g0 g1 g2 g3 g4 g5 g6
    refine (law08_awake W3 (HL.out.old H3.out.1)).mono ?_
    rintro e w4 ⟨rfl, hT4⟩
    have H4 := Lib.hid (H3.out.1.trans hT4)
    clear hT4
    go_wp2
    go_ret
    exact ⟨rfl, H4.out.below⟩
end Go.Proofs.YtjbmpdibjfcafaaDoor
