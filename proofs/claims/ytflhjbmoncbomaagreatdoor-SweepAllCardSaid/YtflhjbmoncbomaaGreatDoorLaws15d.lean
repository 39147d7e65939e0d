/- SweepBlocks, SweepAll, walked. Conditions: the tables of limits, of sizes and of de Bruijn's bits read as laid. -/
import Derived.Test.YtflhjbmoncbomaaGreatDoorLaws15b
import Derived.Test.YtflhjbmoncbomaaGreatDoorSwt
import Derived.Test.YtflhjbmoncbomaaGreatDoorRv4
namespace Go.Proofs.YtflhjbmoncbomaaGreatDoor
open Go.RowKit

theorem Rv.box7 {w : World} {O : Nat → Prop} {m qx n : Nat} {c : Cf} {S : HS} {H : Nat → List Nat} (h : Rv w O m qx c n S H) : w.cell? ⟨m, 7, none⟩ = some (.int .i64 S.s.ks.length) := by
  obtain ⟨⟨R, ⟨sv, v, cx, hb⟩, hs⟩, _⟩ := h
  obtain ⟨d7, -⟩ := hb.boxes
  rwa [hs.u] at d7
set_option maxRecDepth 10000 in
set_option maxHeartbeats 4000000 in
theorem law_SweepBlocks {w : World} (a0 : Int) (_ : (Lit.int .i64 a0).wf = true) (a1 : Int) (_ : (Lit.int .i64 a1).wf = true) (a2 : Int) (_ : (Lit.int .i64 a2).wf = true) (a3 : Int) (_ : (Lit.int .i64 a3).wf = true) (a4 : Int) (_ : (Lit.int .i64 a4).wf = true) (a5 : Int) (_ : (Lit.int .i64 a5).wf = true) (a6 : Int) (_ : (Lit.int .i64 a6).wf = true) (l : Value) (rows : List (List Value)) (hl : IsSlice w l [some .u8, some .u8, none] rows) (q0 : Int) (_ : (Lit.int .i64 q0).wf = true) (q1 : Int) (_ : (Lit.int .i64 q1).wf = true) (hTab : Tab w) (hLim : Limits w) (hS : Sizes w) :
    Calls Tryz.prog 10 #[CfgV a0 a1 a2 a3 a4 a5 a6, l, .agg #[.int .i64 q0, .int .i64 q1]] w fun e w' => e = .returned (.bool true) ∧ Below w.heap.size w w' := by
  obtain ⟨N, hI, -⟩ := rows_of_slice hl (by simp)
  obtain ⟨th, -, hth⟩ := ThIn.of_rows hI
  have HTH := Lib.hid hth
  have HL := Lib.hid (Laid.mk hLim hS)
  have HTab := Lib.hid hTab
  clear hLim hS hTab hl hI hth
  obtain ⟨c, hc⟩ : ∃ c, little ⟨a0, a1, a2, a3, a4, a5, a6⟩ = c := ⟨_, rfl⟩
  have hok : c.ok = true := by rw [← hc]; exact little_ok _
  have hc4 : 0 ≤ c.c4 ∧ c.c4 ≤ 3 := by rw [← hc]; simp only [little]; omega
  have hc01 : (0 ≤ c.c0 ∧ c.c0 ≤ 4) ∧ 0 ≤ c.c1 ∧ c.c1 ≤ 36 := by rw [← hc]; simp only [little]; omega
  have hlit := ref02_Little ⟨a0, a1, a2, a3, a4, a5, a6⟩
  rw [hc] at hlit
  have hmb := mul_bd (a := c.c0) (b := c.c1) (A := 4) (B := 36) hc01.1.1 hc01.1.2 hc01.2.1 hc01.2.2
  obtain ⟨z, hz⟩ : ∃ z : Nat, (z : Int) = c.c0 * c.c1 := ⟨(c.c0 * c.c1).toNat, by omega⟩
  obtain ⟨n4, hn4⟩ : ∃ n4 : Nat, c.c4 = n4 := ⟨c.c4.toNat, by omega⟩
  have HC := Lib.hid (And.intro hok (And.intro hlit (And.intro hz (And.intro (show z ≤ 4096 by omega) (And.intro hn4 (show n4 ≤ 64 by omega))))))
  clear hok hlit hc hc4 hc01 hz hn4 hmb
  go_enter Tryz.func10, Tryz.ntmps10
  go_wp2_with (go_at_call 12; fail)
  obtain ⟨W, hW⟩ : ∃ W, W = (w.alloc (Obj.cells (CfgRow a0 a1 a2 a3 a4 a5 a6) 23)).alloc (Obj.cells #[.int .i64 q0, .int .i64 q1] 88) := ⟨_, rfl⟩
  have hT : Touch nob w W := by rw [hW]; (repeat (first | with_reducible exact Touch.refl _ _ | with_reducible assumption | with_reducible apply Touch.alloc | with_reducible apply Touch.drewN | with_reducible apply Touch.drew | with_reducible refine Touch.setCell ?_ (.inr (by first | omega | (simp; done) | (simp; omega))) _))
  have hbq : W.heap[w.heap.size + 1]? = some (Obj.cells #[.int .i64 q0, .int .i64 q1] 88) := by rw [hW]; exact alloc2_1 w _ _
  obtain ⟨b0, hb0⟩ : ∃ b, b = w.heap.size := ⟨_, rfl⟩
  rw [← hW, ← hb0]
  rw [← hb0] at hbq
  have HB := Lib.hid hT
  have HBQ := Lib.hid hbq
  clear hW hb0 hT hbq
  refine (HC.out.2.1 W).mono ?_
  rintro e w1 ⟨rfl, hT1⟩
  have H1 := Lib.hid (HB.out.trans hT1)
  have HTa := Lib.hid hT1
  clear hT1
  go_wp2_with (go_at_call 51; fail)
  refine (law15_Made c l th z n4 HC.out.1 HC.out.2.2.1 HC.out.2.2.2.1 HC.out.2.2.2.2.1 HC.out.2.2.2.2.2 w1 (HL.out.old H1.out) (HTH.out.old H1.out)).mono ?_
  rintro e w2 ⟨W1, t1, A, m, rfl, hn, qx, O, h2, hx2⟩
  obtain ⟨p, hp⟩ : ∃ p, mdF c A.L.n (th.take 40) (newS0 z n4, fun _ => []) = p := ⟨_, rfl⟩
  rw [hp] at h2 hx2
  clear hp
  have H2 := Lib.hid (And.intro (H1.out.trans t1) h2)
  have HTb := Lib.hid (HTa.out.trans t1)
  clear t1 hn h2
  go_wp2_with (go_at_call 32; fail)
  refine (law15_awake w2 (HL.out.old (H2.out.1.trans H2.out.2.base))).mono ?_
  rintro e w3 ⟨rfl, t3⟩
  have HTW := Lib.hid (HTab.out.touch H2.out.1 (fun x => x))
  have H3 : Hid (Touch nob w w3 ∧ Two W1 w3 A c p.1 p.2 O m qx) := ⟨(H2.out.1.trans H2.out.2.base).trans t3, H2.out.2.old t3⟩
  clear t3
  have hbq3 := blk_touch HBQ.out (HTb.out.trans H3.out.2.base) (fun x => x)
  have c0 : w3.cell? ⟨b0 + 1, 0, none⟩ = some (.int .i64 q0) := by simp [World.cell?, hbq3]
  have c1 : w3.cell? ⟨b0 + 1, 1, none⟩ = some (.int .i64 q1) := by simp [World.cell?, hbq3]
  obtain ⟨U, hU⟩ : ∃ U, p.1.s.ks.length = U := ⟨_, rfl⟩
  have HU := Lib.hid hU
  have hlt3 : ∀ g, O g → g < w3.heap.size := fun g hg => by
    obtain ⟨⟨R, ⟨_, _, _, hb⟩, _⟩, _⟩ := H3.out.2.rv
    exact hb.lt g hg
  have HLT := Lib.hid hlt3
  clear hbq3 hU hlt3
  by_cases hgood : (0 ≤ q0 ∧ q0 < (U : Int)) ∧ (q1 = 0 ∨ q1 = 1)
  · obtain ⟨bb, rfl⟩ := Int.eq_ofNat_of_zero_le hgood.1.1
    have hbU : bb < p.1.s.ks.length := by rw [HU.out]; omega
    have HG := Lib.hid (And.intro hbU hgood.2)
    have g0 : ¬ (bb : Int) < 0 := by omega
    have g1 : ¬ (bb : Int) ≥ (U : Int) := by omega
    have g2 : ¬ q1 < 0 := by omega
    have g3 : ¬ q1 > 1 := by omega
    clear hgood hbU
    have HX2 := Lib.hid hx2
    clear hx2
    go_wp2_with fail
    go_quiet (fail)
    generalize hw : World.drewN w3 _ = w4
    have t4 : Touch nob w3 w4 := by rw [← hw]; exact (Touch.refl _ _).drewN _
    have H4 : Hid (Two W1 w4 A c p.1 p.2 O m qx) := H3.out.2.old t4
    have HS4 := Lib.hid t4.size
    clear hw t4 c0 c1
    go_wp2_with (go_at_call 26; fail)
    refine (sw_Block_ok bb q1 H4.out.hp HG.out.1 HG.out.2).mono ?_
    rintro e w5 ⟨v5, rfl, t5, hp5, ow5⟩
    have r5 := H4.out.mid t5
    have d7 := r5.box7
    rw [HU.out] at d7
    obtain ⟨a5, n5, cp5, rfl⟩ := ow5.ints.shape'
    have H5 := Lib.hid (And.intro t5 (And.intro hp5 (And.intro ow5 r5)))
    clear t5 hp5 ow5 r5
    go_wp2_with (go_at_call 54; fail)
    refine (law15_swept p q1 bb H5.out.2.2.2 HG.out.1).mono ?_
    rintro e w6 ⟨v6, rfl, O6, sw⟩
    have ow6 := sw.ow
    obtain ⟨a6', n6, cp6, rfl⟩ := ow6.ints.shape'
    obtain ⟨P1, hP1⟩ : ∃ P1, swP c q1 (slAt c p.1.s.ks bb) p = P1 := ⟨_, rfl⟩
    have HX6 : Hid (P1.1.x.length ≤ 64) := by
      show _ ≤ _
      rw [← hP1, (swP_facts (col := q1) (slAt c p.1.s.ks bb) p H4.out.rv.inv).x]
      exact HX2.out
    have h6 : Two W1 w6 A c P1.1 P1.2 O6 m qx := by
      rw [← hP1]
      exact H4.out.next H5.out.1 H5.out.2.1 sw.t sw.s sw.rv
    have og : Ow w6 w4.heap.size (.slice a5 n5 cp5) (swL c q1 (slAt c p.1.s.ks bb) p) := H5.out.2.2.1.touch sw.t (fun g hg hO => by
      have h1 := HLT.out g hO
      have h2 := H5.out.2.2.1.new g hg
      have h3 := HS4.out
      omega)
    have HLL : Hid ((swL c q1 (slAt c p.1.s.ks bb) p).length ≤ 1048576) := by
      have h1 := swL_len (c := c) (col := q1) (slAt c p.1.s.ks bb) p
      have h2 := slAt_le (c := c) (ks := p.1.s.ks) (m := bb)
      show _ ≤ _
      omega
    have H6 := Lib.hid (And.intro h6 (And.intro og ow6))
    clear sw ow6 hP1 h6 og d7
    go_wp2_with (go_at_call 52; fail)
    refine (ref01_Same _ _ (swL c q1 (slAt c p.1.s.ks bb) p) w6 H6.out.2.1.ints H6.out.2.2.ints HLL.out).mono ?_
    rintro e w7 ⟨rfl, t7⟩
    have H7 : Hid (Two W1 w7 A c P1.1 P1.2 O6 m qx) := H6.out.1.old t7
    clear t7
    go_wp2_with (go_at_call 34; fail)
    refine (law11_Alike H7.out HTW.out HX6.out).mono ?_
    rintro e w8 ⟨rfl, t8, h8⟩
    have H8 := Lib.hid ((H2.out.1.trans h8.base).below)
    clear t8 h8
    go_wp2
    go_ret
    exact ⟨rfl, H8.out⟩
  · have hno : Hid ((q0 < 0 ∨ (p.1.s.ks.length : Int) ≤ q0) ∨ (q1 ≠ 0 ∧ q1 ≠ 1)) := by
      show _ ∨ _
      rw [HU.out]
      omega
    have hcs : q0 < 0 ∨ (¬ q0 < 0 ∧ q0 ≥ (U : Int)) ∨ (¬ q0 < 0 ∧ ¬ q0 ≥ (U : Int) ∧ q1 < 0) ∨ (¬ q0 < 0 ∧ ¬ q0 ≥ (U : Int) ∧ ¬ q1 < 0 ∧ q1 > 1) := by omega
    have HX2 := Lib.hid hx2
    clear hx2 hgood
    go_wp2_with fail
    go_quiet (fail)
    generalize hw : World.drewN w3 _ = w4
    have t4 : Touch nob w3 w4 := by rw [← hw]; exact (Touch.refl _ _).drewN _
    have H4 : Hid (Two W1 w4 A c p.1 p.2 O m qx) := H3.out.2.old t4
    clear hw t4 c0 c1
    go_wp2_with (go_at_call 26; fail)
    refine (sw_Block_no q0 q1 H4.out.hp hno.out).mono ?_
    rintro e w5 ⟨rfl, t5⟩
    have H5 : Hid (Two W1 w5 A c p.1 p.2 O m qx) := H4.out.old t5
    have d7 := H5.out.rv.box7
    rw [HU.out] at d7
    clear t5
    rcases hcs with g0 | ⟨g0, g1⟩ | ⟨g0, g1, g2⟩ | ⟨g0, g1, g2, g3⟩
    all_goals
      go_wp2_with (go_at_call 34; fail)
      clear d7
      refine (law11_Alike H5.out HTW.out HX2.out).mono ?_
      rintro e w8 ⟨rfl, t8, h8⟩
      have H8 := Lib.hid ((H2.out.1.trans h8.base).below)
      clear t8 h8
      go_wp2
      go_ret
      exact ⟨rfl, H8.out⟩
end Go.Proofs.YtflhjbmoncbomaaGreatDoor
