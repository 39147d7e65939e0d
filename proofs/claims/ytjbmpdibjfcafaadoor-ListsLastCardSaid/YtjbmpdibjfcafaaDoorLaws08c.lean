/- The law ListsLast, walked. Conditions: the tables of limits and of sizes read as laid. -/
import Derived.Test.YtjbmpdibjfcafaaDoorLaws08b
import Derived.Test.YtjbmpdibjfcafaaDoorAppd
import Derived.Test.YtjbmpdibjfcafaaDoorReach
import Derived.Laws.OwnMore
import Derived.BigRegion
namespace Go.Proofs.YtjbmpdibjfcafaaDoor
open Go.RowKit
attribute [local go_sem ↓ high] builtin_appd

variable {W w wr : World} {A : LA} {c : Cf} {s : LS} {H : Nat → List Nat}
theorem info_u8 : (Tryd.prog.info? 5).map (fun i => (i.zero, i.size, i.bytes)) = some (some (.int .u8 0), 1, 1) := by kernel_rfl
set_option maxRecDepth 20000 in
/-- append([]uint8{0}, v...), run. -/
theorem u8_append {W : World} {v : Value} {us : List Int} (h : U8In W v us) (hv : v = .slice none 0 0 ∨ ∃ a cap, v = .slice (some a) us.length cap) (hl : us.length ≤ 140737488351232) :
    ∃ g cap' w3, (Appd #[63, 63] 63 #[.slice (some ⟨W.heap.size, 0, none⟩) 1 1, v]).run Tryd.prog (W.alloc (Obj.cells #[.int .u8 0] 5)).drew = .ok (.slice (some ⟨g, 0, none⟩) (us.length + 1) cap') w3 ∧
      Hid (Touch nob W w3 ∧ U8In w3 (.slice (some ⟨g, 0, none⟩) (us.length + 1) cap') (0 :: us)) := by
  obtain ⟨i0, hi, hz0, hz1, hz2⟩ := info_parts info_u8
  obtain ⟨W1, hW1⟩ : ∃ W1, W1 = (W.alloc (Obj.cells #[.int .u8 0] 5)).drew := ⟨_, rfl⟩
  have hT1 : Touch nob W W1 := by rw [hW1]; exact ((Touch.refl nob W).alloc _).drew
  have hs1 : W1.heap.size = W.heap.size + 1 := by rw [hW1]; show (W.alloc _).heap.size = _; rw [World.size_alloc]
  have hb1 : W1.heap[W.heap.size]? = some (Obj.cells #[.int .u8 0] 5) := by rw [hW1]; exact World.alloc_heap_new W _
  rw [← hW1]
  clear hW1
  have hown0 : W1.ownsRow W.heap.size 5 1 (.slice (some ⟨W.heap.size, 0, none⟩) 1 1) 1 [.int .u8 0] := ⟨rfl, .inr ⟨W.heap.size, 1, #[.int .u8 0], rfl, Nat.le_refl _, hb1, Nat.le_refl _, by unfold maxLen; omega, rfl, rfl⟩⟩
  have fin : ∀ (v1 : Value) (w3 : World), w3.ownsRow W.heap.size 5 1 v1 (us.length + 1) ((0 :: us).map (.int .u8)) → Touch nob W w3 →
      ∃ g cap', v1 = .slice (some ⟨g, 0, none⟩) (us.length + 1) cap' ∧ Hid (Touch nob W w3 ∧ U8In w3 (.slice (some ⟨g, 0, none⟩) (us.length + 1) cap') (0 :: us)) := by
    intro v1 w3 hown hT
    obtain ⟨g, cp, rfl, _, hr, _, _⟩ := RowAt.of_owns_some hown (by omega)
    refine ⟨g, cp, rfl, hT, ⟨_, cp, rfl, .inr ⟨g, 0, rfl, ?_, fun j hj => ?_⟩⟩⟩
    · obtain ⟨_, _, _, h3, _⟩ := hr
      simpa using h3
    · rw [Nat.zero_add, hr.cell (j := j) (by simpa using hj)]
      simp [List.getD_eq_getElem?_getD]
      cases j with
      | zero => simp
      | succ j => simp at hj ⊢; simp [hj]
  rcases hv with rfl | ⟨a, cap, rfl⟩
  · have hus : us = [] := by
      obtain ⟨ao, cp, e, _⟩ := h
      injection e with _ e2 _
      exact List.eq_nil_of_length_eq_zero e2.symm
    subst hus
    have hr := run_append_owned_none (P := Tryd.prog) (w := W1) W.heap.size 63 63 5 i0 1 Tryd.underlying63 hi _ 1 _ hown0
    obtain ⟨g, cp, e, HF⟩ := fin _ W1 hown0 hT1
    exact ⟨g, cp, W1, by rw [← e]; exact hr, HF⟩
  · have HC : ∀ j u, (us.map (Value.int .u8))[j]? = some u → W1.cell? (a.add j) = some u := fun j u hj => by
      obtain ⟨hl, rfl⟩ := List.getElem?_eq_some_iff.1 hj
      simp only [List.length_map] at hl
      obtain ⟨b', o', cp', e, _, hc⟩ := h.at hl
      injection e with e1 _ _
      injection e1 with e1
      cases e1
      rw [Addr.add_lit, (hT1.cell (cell_lt hc) (fun x => x)).trans hc]
      simp [List.getD_eq_getElem?_getD, hl]
    obtain ⟨v1, w3, hrun, hown, hgrow, _⟩ := run_append_own (P := Tryd.prog) W1 W.heap.size 63 63 5 i0 (.int .u8 0) 1 1 Tryd.underlying63 hi hz0 hz1 hz2 rfl (by decide) _ 1 _ hown0 a us.length cap (us.map (.int .u8)) (by simp) HC (by simp [Value.oneCell']) (by unfold maxLen; omega) (by omega) (by omega)
    rw [Nat.add_comm 1 us.length] at hown
    obtain ⟨g, cp, rfl, HF⟩ := fin v1 w3 hown (hT1.grown hgrow (fun k hk => .inr (by cases hk; exact Nat.le_refl _)))
    exact ⟨g, cp, w3, hrun, HF⟩
/-- While it is put: what was put, the first one first. -/
structure LP (W wr : World) (A : LA) (c : Cf) (ks : List Int) (z B : Nat) (Z : List Int) (vs v : Value) (L : List Nat) : Prop where
  ll : ∃ s H, s.ks = ks ∧ s.ws.length = z ∧ H 0 = L ∧ LL W wr A c s H
  sl : IntsIn wr vs Z
  low : ∀ b, vs.ownBlock = some b → b < B ∧ ¬ LT A b
  all : ∀ b ∈ A.all, b < B
  Bs : B ≤ wr.heap.size
  hW : W.heap.size ≤ B
  row : wr.ownsRow B 3 1 v L.length ((adr L.reverse).map (.int .i64))
theorem LP.same {w' : World} {ks : List Int} {z B : Nat} {Z : List Int} {vs v : Value} {L L' : List Nat} (h : LP W wr A c ks z B Z vs v L) (ht : Touch (LT A) wr w') (hl : ∃ s H, s.ks = ks ∧ s.ws.length = z ∧ H 0 = L' ∧ LL W w' A c s H) :
    IntsIn w' vs Z ∧ w'.ownsRow B 3 1 v L.length ((adr L.reverse).map (.int .i64)) ∧ B ≤ w'.heap.size ∧ ∃ s H, s.ks = ks ∧ s.ws.length = z ∧ H 0 = L' ∧ LL W w' A c s H :=
  ⟨h.sl.touch ht (fun b hb => (h.low b hb).2), owns_at h.row (fun b hb hl => ht.block b hl (fun x => Nat.lt_irrefl _ (Nat.lt_of_lt_of_le (h.all b (LT_all x)) (h.row.lt b hb).1))), Nat.le_trans h.Bs ht.size, hl⟩
theorem adr_append (L M : List Nat) : adr (L ++ M) = adr L ++ adr M := List.map_append
set_option maxRecDepth 20000 in
set_option maxHeartbeats 8000000 in
theorem law_ListsLast {w : World} (a0 : Int) (_ : (Lit.int .i64 a0).wf = true) (a1 : Int) (_ : (Lit.int .i64 a1).wf = true) (a2 : Int) (_ : (Lit.int .i64 a2).wf = true) (a3 : Int) (_ : (Lit.int .i64 a3).wf = true) (a4 : Int) (_ : (Lit.int .i64 a4).wf = true) (a5 : Int) (_ : (Lit.int .i64 a5).wf = true) (a6 : Int) (_ : (Lit.int .i64 a6).wf = true) (cl : Value) (crows : List (List Value)) (hcl : IsSlice w cl [some .u8] crows) (pl : Value) (prows : List (List Value)) (hpl : IsSlice w pl [some .u8] prows) (hR1 : crows.length * 1 ≤ reachBytes) (hLim : Limits w) (hS : Sizes w) :
    Calls Tryd.prog 14 #[CfgV a0 a1 a2 a3 a4 a5 a6, cl, pl] w fun e w' => e = .returned (.bool true) ∧ Below w.heap.size w w' := by
  have hcs : cl = .slice none 0 0 ∨ ∃ a cap, cl = .slice (some a) crows.length cap := by
    rcases hcl with ⟨h, _⟩ | ⟨a, cap, h, _⟩
    · exact .inl h
    · exact .inr ⟨a, cap, h⟩
  obtain ⟨us, hU, hub⟩ := u8s_of_slice hcl
  have hul : us.length = crows.length := by
    obtain ⟨_, _, e, _⟩ := id hU
    rcases hcl with ⟨h, h2⟩ | ⟨a, cap, h, _⟩
    · rw [h] at e
      injection e with _ e2 _
      rw [← e2, h2]
      rfl
    · rw [h] at e
      injection e with _ e2 _
      exact e2.symm
  rw [← hul] at hcs hR1
  have HCS := Lib.hid (And.intro hcs (show us.length ≤ 140737488351232 by rw [Nat.mul_one] at hR1; exact hR1))
  clear hcs hR1 hul
  obtain ⟨ps, hP, hpb⟩ := u8s_of_slice hpl
  obtain ⟨N, hN⟩ : ∃ N, ps.length = N := ⟨_, rfl⟩
  obtain ⟨ao, cap, rfl⟩ := hP.shape
  rw [hN] at hP ⊢
  have HP := Lib.hid (And.intro hP (And.intro hpb hN))
  have HU := Lib.hid (And.intro hU hub)
  have HL := Lib.hid (Laid.mk hLim hS)
  clear hLim hS hcl hpl hP hpb hN hU hub
  obtain ⟨n, hn, hn1, hn4⟩ := little_n a0 a1 a2 a3 a4 a5 a6
  obtain ⟨c, hc⟩ : ∃ c, little ⟨a0, a1, a2, a3, a4, a5, a6⟩ = c := ⟨_, rfl⟩
  have hok : c.ok = true := by rw [← hc]; exact little_ok _
  have hw36 : c.c1 ≤ 36 := by rw [← hc]; simp only [little]; omega
  have hlit := ref02_Little ⟨a0, a1, a2, a3, a4, a5, a6⟩
  rw [hc] at hn hlit
  have HC := Lib.hid (And.intro hn (And.intro hok (And.intro hlit hw36)))
  clear hn hok hlit hc hw36
  go_enter Tryd.func14, Tryd.ntmps14
  go_wp2_with fail
  obtain ⟨W, hW⟩ : ∃ W, W = w.alloc (Obj.cells (CfgRow a0 a1 a2 a3 a4 a5 a6) 49) := ⟨_, rfl⟩
  have hT : Touch nob w W := by rw [hW]; repeat (first | with_reducible exact Touch.refl _ _ | with_reducible assumption | with_reducible apply Touch.alloc | with_reducible apply Touch.drewN | with_reducible apply Touch.drew | with_reducible refine Touch.setCell ?_ (.inr (by first | omega | (simp; done) | (simp; omega))) _)
  have hbx : W.heap[w.heap.size]? = some (Obj.cells (CfgRow a0 a1 a2 a3 a4 a5 a6) 49) := by rw [hW]; exact World.alloc_heap_new w _
  obtain ⟨b0, hb0⟩ : ∃ b, b = w.heap.size := ⟨_, rfl⟩
  rw [← hW, ← hb0]
  rw [← hb0] at hbx
  refine (HC.out.2.2.1 W).mono ?_
  rintro e w1 ⟨rfl, hT1⟩
  have hb1 := blk_touch hbx hT1 (fun x => x)
  obtain ⟨y0, y1, y2, y3, y4, y5, y6⟩ := cfg_box hb1 (Touch.refl _ _)
  have f0 : ∀ j, w1.frozen? ⟨b0, j, none⟩ = false := fun j => by simp [World.frozen?, hb1]
  have g0 := f0 0; have g1 := f0 1; have g2 := f0 2; have g3 := f0 3; have g4 := f0 4; have g5 := f0 5; have g6 := f0 6
  obtain ⟨W3, hW3⟩ : ∃ W3, W3 = set7 w1 b0 (.int .i64 c.c0) (.int .i64 c.c1) (.int .i64 c.c2) (.int .i64 c.c3) (.int .i64 c.c4) (.int .i64 c.c5) (.int .i64 c.c6) := ⟨_, rfl⟩
  have hc3 : W3.heap[b0]? = some (Obj.cells (CfgRow c.c0 c.c1 c.c2 c.c3 c.c4 c.c5 c.c6) 49) := by rw [hW3]; exact set7_at _ _ _ _ _ _ _ _ hb1
  have hT3 : Touch nob w W3 := by rw [hW3]; exact set7_touch _ _ _ _ _ _ _ (by omega) (hT.trans hT1)
  have H3 := Lib.hid (And.intro hT3 hc3)
  clear hT hbx hT1 hb1 f0 hc3 hT3 hW hb0
  by_cases h60 : N ≤ 60
  · go_wp2_with (go_at_call 49; fail)
    simp only [set7] at hW3
    rw [← hW3]
    clear hW3 y0 y1 y2 y3 y4 y5 y6 g0 g1 g2 g3 g4 g5 g6
    refine (law08_awake W3 (HL.out.old H3.out.1)).mono ?_
    rintro e w4 ⟨rfl, hT4⟩
    have HB := Lib.hid (fun w' (ht : Touch nob w4 w') => cfg_box H3.out.2 (hT4.trans ht))
    have HT4 := Lib.hid (H3.out.1.trans hT4)
    have hT0 := Touch.refl nob w4
    obtain ⟨g, cap', w5, hrun, HX⟩ := u8_append (W := w4) (HU.out.1.old HT4.out) HCS.out.1 HCS.out.2
    have hT5 := HX.out.1
    obtain ⟨m1, hm1⟩ : ∃ m, us.length + 1 = m := ⟨_, rfl⟩
    rw [hm1] at hrun HX
    have HM1 := Lib.hid hm1
    clear hT4 hm1
    have HMade := Lib.hid (law08_made (c := c) (n := n) (0 :: us) (.slice (some ⟨g, 0, none⟩) m1 cap') (w := w5) HX.out.2 (fun j hj => by
      cases j with
      | zero => exact ⟨show (0 : Int) ≤ 0 by decide, show (0 : Int) < 256 by decide⟩
      | succ j => simpa using HU.out.2 j (by simpa using hj)) HC.out.2.1 HC.out.1 (HL.out.old (HT4.out.trans HX.out.1)))
    go_wp2_with fail
    go_region_held3 (fun w' => w'.cell? ⟨b0, 0, none⟩ = some (.int .i64 c.c0) ∧ w'.cell? ⟨b0, 1, none⟩ = some (.int .i64 c.c1) ∧ w'.cell? ⟨b0, 2, none⟩ = some (.int .i64 c.c2) ∧ w'.cell? ⟨b0, 3, none⟩ = some (.int .i64 c.c3) ∧ w'.cell? ⟨b0, 4, none⟩ = some (.int .i64 c.c4) ∧ w'.cell? ⟨b0, 5, none⟩ = some (.int .i64 c.c5) ∧ w'.cell? ⟨b0, 6, none⟩ = some (.int .i64 c.c6)) (first | exact HB.out _ (by first | assumption | exact hT0.drew | exact (hT0.drew.alloc _) | exact (hT0.alloc _).drew)) (first
      | (go_at_call 50; refine (HMade.out).mono ?_; rintro e w6 ⟨A, z, rfl, hz, -, h6⟩; have hT6 : Touch nob w4 w6 := HX.out.1.trans h6.base; have H6 := Lib.hid (And.intro hz h6); clear hz h6))
    have hH0 : Hid ((z : Int) = c.c0 * c.c1) := H6.out.1
    obtain ⟨ks, hks⟩ : ∃ ks, asg (0 :: us) n (min (0 :: us).length 10) = ks := ⟨_, rfl⟩
    have hks1 : 1 ≤ ks.length ∧ ks.getD 0 0 = 0 := by
      rw [← hks]
      obtain ⟨m', hm'⟩ : ∃ m', min (0 :: us).length 10 = m' + 1 := ⟨min (0 :: us).length 10 - 1, by simp only [List.length_cons]; omega⟩
      obtain ⟨n', hn'⟩ : ∃ n', n = n' + 1 := ⟨n - 1, by omega⟩
      rw [hm', hn']
      unfold asg
      simp
    have hz1 : z ≤ 144 := by
      obtain ⟨⟨u0, v0⟩, ⟨u1, v1⟩, -⟩ := cfgOk_iff.1 HC.out.2.1
      have hn0 := HC.out.1
      have hc36 := HC.out.2.2.2
      have h1 := (mul_bd (a := c.c0) (b := c.c1) (A := 4) (B := 36) (by omega) (by omega) (by omega) (by omega)).2
      have h2 := H6.out.1
      omega
    have h6 := H6.out.2
    rw [hks] at h6
    have H7 : Hid (LL w5 w6 A c ⟨List.replicate z 0, ks, fun _ => false, fun _ => 0, fun _ => 0⟩ (fun _ => [])) := ⟨h6, LInv.start _ _ (by rw [List.length_replicate]; omega), HL.out.old (HT4.out.trans HX.out.1)⟩
    have HT5 := Lib.hid (HT4.out.trans HX.out.1)
    have HK := Lib.hid hks1
    clear hks hks1 h6 H6 hT6 hT0 hT5 hrun HMade HX HM1
    go_wp2_with (go_at_call 40; fail)
    obtain ⟨ct, hbt⟩ := H7.out.ls.tb
    have HBT := Lib.hid hbt
    have hsl := blk_Slots_ok 0 hbt HK.out.1 H7.out.lay.lim H7.out.lay.siz
    rw [HK.out.2] at hsl
    refine hsl.mono ?_
    rintro e w7 ⟨vs, rfl, hT7, hI7, hg7⟩
    have hc0 := (cfgOk_iff.1 HC.out.2.1).1
    have hzl := sl_len (c := c) (k := 0) (b := 0) HC.out.2.1 (by decide) (by omega) (by omega)
    have hpc := per_cls (k := 0) HC.out.2.1 (by decide)
    obtain ⟨Z, hZ⟩ : ∃ Z, sl c 0 0 = Z := ⟨_, rfl⟩
    obtain ⟨Y, hY⟩ : ∃ Y, Z.length = Y := ⟨_, rfl⟩
    have hY1 : 1 ≤ Y ∧ Y ≤ 128 := by rw [← hY, ← hZ, hzl]; omega
    have hI7 : IntsIn w7 vs Z := by rw [← hZ]; exact hI7
    obtain ⟨ao7, cp7, rfl⟩ := hI7.shape
    rw [hY] at hI7 hg7 ⊢
    have HP0 : Hid (LP w5 w7 A c ks z w7.heap.size Z (.slice ao7 Y cp7) (.slice none 0 0) []) := by
      have hlt := H7.out.ls.lt
      have hs7 := hT7.size
      have h0 : ∀ b ∈ A.all, b < w6.heap.size := fun b hb => by
        unfold LA.all at hb
        simp only [List.mem_cons, List.not_mem_nil, or_false] at hb
        omega
      refine ⟨⟨_, _, rfl, List.length_replicate, rfl, H7.out.old hT7⟩, hI7, fun b hb => ⟨?_, fun hlb => ?_⟩, fun b hb => Nat.lt_of_lt_of_le (h0 b hb) hs7, Nat.le_refl _, Nat.le_trans H7.out.base.size hs7, World.ownsRow_nil _ _ _ _⟩
      · obtain ⟨b', o', cp', e, _, hc⟩ := hI7.at (k := 0) (by rw [hY]; omega)
        injection e with e1 _ _
        rw [e1] at hb
        obtain rfl : b' = b := by cases hb; rfl
        exact cell_lt hc
      · have := hg7 b hb
        have := h0 b (LT_all hlb)
        omega
    have HZ := Lib.hid (And.intro hZ hY)
    obtain ⟨B, hB⟩ : ∃ B, w7.heap.size = B := ⟨_, rfl⟩
    rw [hB] at HP0
    clear hbt hsl hT7 hI7 hg7 hc0 hzl hpc hZ hY H7 hB
    obtain ⟨hY0, hY2⟩ := hY1
    obtain ⟨i0, hi, hz0, hz1', hz2⟩ := info_parts info_int2
    go_wp2_with fail
    go_loopw [11, 12] (fun v i wr => ∃ (j : Nat) (L : List Nat), j ≤ N ∧ L.length ≤ j ∧ i = .int .i64 j ∧ Hid (LP w5 wr A c ks z B Z (.slice ao7 Y cp7) v L)) (fun _ i _ => N - (intOf i).toNat)
    case atStart => exact ⟨0, [], Nat.zero_le _, Nat.le_refl _, rfl, HP0⟩
    case round =>
      obtain ⟨j, L, hj, hLj, rfl, HR⟩ := hrel
      obtain ⟨m, hm⟩ : ∃ m, L.length = m := ⟨_, rfl⟩
      rw [hm] at hLj
      have hrow := HR.out.row
      rw [hm] at hrow
      obtain ⟨ao8, cp8, rfl⟩ := own_shape hrow
      have HM := Lib.hid hm
      clear HP0 hrow hm
      by_cases hlt : j < N
      · obtain ⟨s, H, hks, hzz, hH, hl⟩ := HR.out.ll
        have hTr := HT5.out.trans hl.base
        have hb : (j : Int) < (N : Int) := by omega
        obtain ⟨b1, o1, cp1, e1, _, hx⟩ := (HP.out.1.old hTr).at (k := j) (by rw [HP.out.2.2]; exact hlt)
        rw [HP.out.2.2] at e1
        injection e1 with e2 e3 e4
        subst e2
        have hxb := HP.out.2.1 j (by rw [HP.out.2.2]; exact hlt)
        obtain ⟨x, hxx⟩ : ∃ x, ps.getD j 0 = x := ⟨_, rfl⟩
        rw [hxx] at hx hxb
        obtain ⟨y, hy⟩ : ∃ y : Nat, x.tmod (Y : Int) = y := ⟨(x.tmod Y).toNat, by have := Int.tmod_nonneg (Y : Int) hxb.1; omega⟩
        have hyY : (y : Int) < (Y : Int) := by have := Int.tmod_lt_of_pos x (show (0 : Int) < Y by omega); omega
        have hYne : ¬ (Y : Int) = 0 := by omega
        obtain ⟨hx0, hx1⟩ := hxb
        obtain ⟨b7, o7, cp7', e7, _, hs⟩ := HR.out.sl.at (k := y) (by rw [HZ.out.2]; omega)
        rw [HZ.out.2] at e7
        injection e7 with e8 e9 e10
        have hmem : Z.getD y 0 ∈ sl c (ks.getD 0 0) ((0 : Nat) : Int) := by
          rw [HK.out.2]
          show _ ∈ sl c 0 0
          rw [HZ.out.1]
          have hyl : y < Z.length := by rw [HZ.out.2]; omega
          rw [List.getD_eq_getElem?_getD, List.getElem?_eq_getElem hyl]
          exact List.getElem_mem hyl
        obtain ⟨at', hat⟩ : ∃ a, Z.getD y 0 = a := ⟨_, rfl⟩
        rw [hat] at hs hmem
        obtain ⟨ho, hdv⟩ := own_of_mem HC.out.2.1 HK.out.1 (by rw [HK.out.2]; decide) (by have := (cfgOk_iff.1 HC.out.2.1).1; omega) hmem
        obtain ⟨j0, k0, rfl, hj0, hk0, hcl0, ho'⟩ := hl.slot (a := at') (by rw [hks]; exact ho)
        obtain rfl : k0 = 0 := by
          unfold clsA at hcl0
          rw [hdv, hks] at hcl0
          have : ks.getD 0 0 = (k0 : Int) := hcl0
          rw [HK.out.2] at this
          omega
        have HQ := Lib.hid (And.intro hks (And.intro hzz (And.intro hH (And.intro hl (And.intro hj0 (And.intro hcl0 ho'))))))
        have hs : wr.cell? ⟨b7, o7 + y, none⟩ = some (.int .i64 ((j0 : Int) + 1)) := hs
        subst e8
        clear e3 e4 e9 e10 hmem hat ho hdv hcl0 ho' hks hzz hH hl hTr hxx hj0
        by_cases hm : j0 ∈ L
        · go_wp2_with (go_at_call 53; fail)
          refine (ll_Put_in j0 0 HQ.out.2.2.2.1 HQ.out.2.2.2.2.1 HQ.out.2.2.2.2.2.2 (by decide) HQ.out.2.2.2.2.2.1 (by rw [HQ.out.2.2.1]; exact hm)).mono ?_
          rintro e w8 ⟨rfl, hT8, h8⟩
          obtain ⟨q1, q2, q3, q4⟩ := HR.out.same (L' := L) hT8 ⟨s, H, HQ.out.1, HQ.out.2.1, HQ.out.2.2.1, h8⟩
          have HR' : Hid (LP w5 w8 A c ks z B Z (.slice (some ⟨b7, o7, none⟩) Y cp7) (.slice ao8 m cp8) L) := ⟨q4, q1, HR.out.low, HR.out.all, q3, HR.out.hW, q2⟩
          clear q1 q2 q3 q4 hT8 h8 hx hs hm
          go_wp2
          go_roundw
          case rel => exact ⟨j + 1, L, by omega, by rw [HM.out]; omega, by go_num, HR'⟩
          case measure => simp [intOf]; omega
        · go_wp2_with (go_at_call 53; fail)
          refine (ll_Put_ok j0 0 HQ.out.2.2.2.1 HQ.out.2.2.2.2.1 HQ.out.2.2.2.2.2.2 (by decide) HQ.out.2.2.2.2.2.1 (by rw [HQ.out.2.2.1]; exact hm)).mono ?_
          rintro e w8 ⟨rfl, hT8, h8⟩
          obtain ⟨q1, q2, q3, q4⟩ := HR.out.same (L' := j0 :: L) hT8 ⟨s.put j0 0, _, HQ.out.1, (by show (s.ws.set j0 _).length = z; rw [List.length_set]; exact HQ.out.2.1), (by unfold updH; rw [if_pos rfl, HQ.out.2.2.1]), h8⟩
          rw [HM.out] at q2
          have HX := Lib.hid (And.intro q1 (And.intro q2 (And.intro q3 q4)))
          clear q1 q2 q3 q4 hT8 h8 hx hs hm
          go_wp2_with (at_builtin; refine wpList_append_own _ rfl _ _ 23 rfl B 3 i0 (.int .i64 0) 1 8 Tryd.underlying23 hi hz0 hz1' hz2 rfl (by decide) _ m _ rfl (HX.out.2.1.alloc _) ⟨w8.heap.size, 0, none⟩ 1 1 [.int .i64 ((j0 : Int) + 1)] rfl rfl (World.news_of_block (World.alloc_heap_new _ _)) (ints_oneCell _ [(j0 : Int) + 1]) (by unfold maxLen; omega) (by omega) (by have := HX.out.2.2.1; simp; omega) ?_; intro v3 w9 hown hgrow _; have HY := Lib.hid (And.intro hown hgrow); clear hown hgrow)
          have HR' : Hid (LP w5 w9 A c ks z B Z (.slice (some ⟨b7, o7, none⟩) Y cp7) v3 (j0 :: L)) := by
            obtain ⟨q1, q2, q3, s', H', e1, e2, e3, e4⟩ := HX.out
            have ht : Touch (fun b => B ≤ b) w8 w9 := Touch.grown ((Touch.refl _ _).alloc _) HY.out.2 (fun b hb => .inl (q2.lt b hb).1)
            have hfr : LL w5 w9 A c s' H' := by
              have hn : ∀ b ∈ A.all, ¬ B ≤ b := fun b hb x => Nat.lt_irrefl _ (Nat.lt_of_lt_of_le (HR.out.all b hb) x)
              exact ⟨e4.ls.touch (e4.base.step ht (fun i hi => .inr (Nat.le_trans HR.out.hW hi))) ht (hn _ (by simp [LA.all])) (hn _ (by simp [LA.all])) (hn _ (by simp [LA.all])) (hn _ (by simp [LA.all])) (hn _ (by simp [LA.all])) (hn _ (by simp [LA.all])) (hn _ (by simp [LA.all])), e4.inv, e4.laid⟩
            refine ⟨⟨s', H', e1, e2, e3, hfr⟩, q1.touch ht (fun b hb x => Nat.not_le_of_lt (HR.out.low b hb).1 x), HR.out.low, HR.out.all, Nat.le_trans q3 ht.size, HR.out.hW, ?_⟩
            rw [List.length_cons, HM.out, show adr (j0 :: L).reverse = adr L.reverse ++ [(j0 : Int) + 1] by rw [List.reverse_cons, adr_append]; rfl, List.map_append]
            exact HY.out.1
          clear HX HY
          go_wp2
          go_roundw
          case rel => exact ⟨j + 1, j0 :: L, by omega, by rw [List.length_cons, HM.out]; omega, by go_num, HR'⟩
          case measure => simp [intOf]; omega
      · obtain rfl : j = N := by omega
        obtain ⟨s, H, hks, hzz, hH, hl⟩ := HR.out.ll
        have hml := (hl.m_le (k := 0) (by decide)).1
        rw [hH, HM.out] at hml
        have hlen := lists_Len 0 (by decide) hl.ls
        rw [hml] at hlen
        have hIH : IntsIn wr (.slice ao8 m cp8) (adr L.reverse) := ints_of_ownZ HR.out.row
        have HQ := Lib.hid (And.intro hl (And.intro hH (And.intro hIH hlen)))
        have HLT := Lib.hid (fun b (hb : (Value.slice ao8 m cp8).ownBlock = some b) (x : LT A b) => Nat.lt_irrefl b (Nat.lt_of_lt_of_le (HR.out.all b (LT_all x)) (HR.out.row.lt b hb).1))
        clear hks hzz hH hl hml hIH hlen HR hlt hj
        go_wp2_with (go_at_call 56; fail)
        refine HQ.out.2.2.2.mono ?_
        rintro e w8 ⟨rfl, rfl⟩
        go_wp2_with fail
        go_loopw [14] (fun i wr => ∃ (q : Nat) (x : Int) (s : LS) (H : Nat → List Nat), q ≤ m ∧ i = .int .i64 x ∧ x + 1 = q ∧ Hid (H 0 = L.drop (m - q) ∧ LL w5 wr A c s H ∧ IntsIn wr (.slice ao8 m cp8) (adr L.reverse))) (fun i _ => (intOf i + 1).toNat)
        case atStart => exact ⟨m, (m : Int) - 1, s, H, Nat.le_refl _, rfl, by omega, by rw [Nat.sub_self]; exact HQ.out.2.1, HQ.out.1, HQ.out.2.2.1⟩
        case round =>
          obtain ⟨q, x, s, H, hqm, rfl, hxq, HR⟩ := hrel
          clear HQ
          cases q with
          | zero =>
            obtain rfl : x = -1 := by omega
            have hnil : H 0 = [] := by
              rw [HR.out.1]
              exact List.drop_eq_nil_of_le (by rw [HM.out]; exact Nat.le_refl _)
            have h1 := lists_Len 0 (by decide) HR.out.2.1.ls
            have h2 := lists_First 0 (by decide) HR.out.2.1.ls
            rw [(HR.out.2.1.m_le (k := 0) (by decide)).1, hnil] at h1
            have h3 := HR.out.2.1.inv.thr 0 (by decide)
            rw [hnil] at h3
            have h4 : s.f 0 = 0 := h3
            rw [h4] at h2
            have HE := Lib.hid (And.intro h1 h2)
            clear hnil h1 h2 h3 h4
            go_wp2_with (go_at_call 56; fail)
            refine HE.out.1.mono ?_
            rintro e w9 ⟨rfl, rfl⟩
            go_wp2_with (go_at_call 59; fail)
            refine HE.out.2.mono ?_
            rintro e w9 ⟨rfl, rfl⟩
            go_wp2
            go_ret
            exact ⟨rfl, (HT5.out.trans HR.out.2.1.base).below⟩
          | succ q =>
            obtain rfl : x = q := by omega
            have hd : m - (q + 1) < L.length := by rw [HM.out]; omega
            have hcons := List.drop_eq_getElem_cons hd
            rw [show m - (q + 1) + 1 = m - q by omega] at hcons
            obtain ⟨j0, hj0⟩ : ∃ j0, L[m - (q + 1)] = j0 := ⟨_, rfl⟩
            have hrev : (adr L.reverse).getD q 0 = (j0 : Int) + 1 := by
              rw [adr_getD (by rw [List.length_reverse, HM.out]; omega), ← hj0, List.getD_eq_getElem?_getD, List.getElem?_reverse (by rw [HM.out]; omega), HM.out, show m - 1 - q = m - (q + 1) by omega, List.getElem?_eq_getElem hd]
              rfl
            rw [hj0] at hcons
            obtain ⟨b9, o9, cp9, e9, _, hc9⟩ := HR.out.2.2.at (k := q) (by rw [List.length_map, List.length_reverse, HM.out]; omega)
            rw [List.length_map, List.length_reverse, HM.out] at e9
            injection e9 with e10 e11 e12
            rw [hrev] at hc9
            have hq0 : (0 : Int) ≤ (q : Int) := by omega
            have hqm' : (q : Int) < (m : Int) := by omega
            have HC9 := Lib.hid (And.intro hcons (And.intro e10 hc9))
            clear hd hcons hj0 hrev e11 e12
            go_wp2_with (go_at_call 51; fail)
            refine (ll_Take_ok j0 0 (L.drop (m - q)) HR.out.2.1 (by decide) (by rw [HR.out.1, HC9.out.1])).mono ?_
            rintro e w9 ⟨rfl, hT9, h9⟩
            have hI9 := HR.out.2.2.touch hT9 HLT.out
            have hc9 := (hT9.cell (cell_lt hc9) (HLT.out b9 (by rw [e10]; rfl))).trans hc9
            have H9 := Lib.hid (And.intro h9 hI9)
            clear hT9 h9 hI9
            subst e10
            go_wp2
            go_roundw
            case rel => exact ⟨q, (q : Int) - 1, _, _, by omega, rfl, by omega, by unfold updH; rw [if_pos rfl], H9.out⟩
            case measure => simp [intOf]
  · go_wp2_with (go_at_call 49; fail)
    simp only [set7] at hW3
    rw [← hW3]
    clear hW3 y0 y1 y2 y3 y4 y5 y6 g0 g1 g2 g3 g4 g5 g6
    refine (law08_awake W3 (HL.out.old H3.out.1)).mono ?_
    rintro e w4 ⟨rfl, hT4⟩
    have H4 := Lib.hid (H3.out.1.trans hT4)
    clear hT4
    go_wp2
    go_ret
    exact ⟨rfl, H4.out.below⟩
end Go.Proofs.YtjbmpdibjfcafaaDoor
