/- SweepSteps, walked. Conditions: the tables of limits, of sizes and of de Bruijn's bits read as laid. -/
import Derived.Test.YtflhjbmoncbomaaGreatDoorLaws15b
import Derived.Test.YtflhjbmoncbomaaGreatDoorSti
namespace Go.Proofs.YtflhjbmoncbomaaGreatDoor
open Go.RowKit

variable {w : World}
variable {O T : Nat → Prop} {m qx n : Nat} {c : Cf} {S : HS} {H : Nat → List Nat}
theorem Rv.boxes (h : Rv w O m qx c n S H) : w.cell? ⟨m, 7, none⟩ = some (.int .i64 S.s.ks.length) ∧ w.cell? ⟨m, 1, none⟩ = some (.int .i64 c.c1) := by
  obtain ⟨⟨R, ⟨sv, v, cx, hb⟩, hs⟩, _⟩ := h
  have hbx := hb.box
  obtain ⟨d7, -⟩ := hb.boxes
  rw [hs.u] at d7
  exact ⟨d7, by simp [World.cell?, hbx]⟩
theorem Rv.slots (h : Rv w O m qx c n S H) : ∃ ao cap, w.cell? ⟨m, 8, none⟩ = some (.slice ao (S.all c).length cap) ∧ ∀ j, j < (S.all c).length → ∃ g, ao = some ⟨g, 0, none⟩ ∧ (S.all c).length ≤ cap ∧ w.cell? ⟨g, j * 6, none⟩ = some (.int .i64 ((S.all c).getD j 0)) := by
  obtain ⟨⟨R, ⟨sv, v, cx, hb⟩, hs⟩, _⟩ := h
  have had : (R.L.map fun s => s.a) = S.all c := hs.ad
  have hl : R.L.length = (S.all c).length := by rw [← had, List.length_map]
  obtain ⟨-, d8, -⟩ := hb.boxes
  obtain ⟨ao, cap, e⟩ : ∃ ao cap, sv = .slice ao R.L.length cap := by
    obtain ⟨_, ⟨h1, h2⟩ | ⟨g, cap, cur, h1, _⟩⟩ := hb.row
    · exact ⟨_, _, by rw [h1, h2]⟩
    · exact ⟨_, _, h1⟩
  subst e
  rw [← hl]
  refine ⟨ao, cap, d8, fun j hj => ?_⟩
  obtain ⟨s, hs'⟩ : ∃ s, R.L[j]? = some s := ⟨_, List.getElem?_eq_getElem hj⟩
  obtain ⟨g, cap', e, _, _, hcap, _, e0, _⟩ := hb.slot j s hs'
  cases e
  refine ⟨g, rfl, hcap, ?_⟩
  have : (S.all c).getD j 0 = s.a := by rw [← had, List.getD_eq_getElem?_getD, List.getElem?_map, hs']; rfl
  rw [this]
  exact e0
set_option maxRecDepth 10000 in
set_option maxHeartbeats 4000000 in
theorem law_SweepSteps {w : World} (a0 : Int) (_ : (Lit.int .i64 a0).wf = true) (a1 : Int) (_ : (Lit.int .i64 a1).wf = true) (a2 : Int) (_ : (Lit.int .i64 a2).wf = true) (a3 : Int) (_ : (Lit.int .i64 a3).wf = true) (a4 : Int) (_ : (Lit.int .i64 a4).wf = true) (a5 : Int) (_ : (Lit.int .i64 a5).wf = true) (a6 : Int) (_ : (Lit.int .i64 a6).wf = true) (l : Value) (rows : List (List Value)) (hl : IsSlice w l [some .u8, some .u8, none] rows) (q0 : Int) (hq0 : (Lit.int .u8 q0).wf = true) (q1 : Int) (hq1 : (Lit.int .u8 q1).wf = true) (q2 : Int) (hq2 : (Lit.int .u8 q2).wf = true) (hTab : Tab w) (hLim : Limits w) (hS : Sizes w) :
    Calls Tryz.prog 9 #[CfgV a0 a1 a2 a3 a4 a5 a6, l, .agg #[.int .u8 q0, .int .u8 q1, .int .u8 q2]] w fun e w' => e = .returned (.bool true) ∧ Below w.heap.size w w' := by
  obtain ⟨N, hI, -⟩ := rows_of_slice hl (by simp)
  obtain ⟨th, -, hth⟩ := ThIn.of_rows hI
  have hb0 := bounds_u8 hq0
  have hb1 := bounds_u8 hq1
  have hb2 := bounds_u8 hq2
  have HTH := Lib.hid hth
  have HL := Lib.hid (Laid.mk hLim hS)
  have HTab := Lib.hid hTab
  clear hLim hS hTab hl hI hth hq0 hq1 hq2
  obtain ⟨c, hc⟩ : ∃ c, little ⟨a0, a1, a2, a3, a4, a5, a6⟩ = c := ⟨_, rfl⟩
  have hok : c.ok = true := by rw [← hc]; exact little_ok _
  have hc4 : 0 ≤ c.c4 ∧ c.c4 ≤ 3 := by rw [← hc]; simp only [little]; omega
  have hc01 : (0 ≤ c.c0 ∧ c.c0 ≤ 4) ∧ 0 ≤ c.c1 ∧ c.c1 ≤ 36 := by rw [← hc]; simp only [little]; omega
  have hlit := ref02_Little ⟨a0, a1, a2, a3, a4, a5, a6⟩
  rw [hc] at hlit
  have hmb := mul_bd (a := c.c0) (b := c.c1) (A := 4) (B := 36) hc01.1.1 hc01.1.2 hc01.2.1 hc01.2.2
  obtain ⟨z, hz⟩ : ∃ z : Nat, (z : Int) = c.c0 * c.c1 := ⟨(c.c0 * c.c1).toNat, by omega⟩
  obtain ⟨n4, hn4⟩ : ∃ n4 : Nat, c.c4 = n4 := ⟨c.c4.toNat, by omega⟩
  have HC := Lib.hid (And.intro hok (And.intro hlit (And.intro hz (And.intro (show z ≤ 4096 by omega) (And.intro hn4 (show n4 ≤ 64 by omega))))))
  clear hok hlit hc hc4 hc01 hz hn4 hmb
  obtain ⟨k, hk⟩ : ∃ k, q1 % 2 = k := ⟨_, rfl⟩
  have hk1 : q1.tmod 2 = k := by rw [Int.tmod_eq_emod_of_nonneg hb1.1]; exact hk
  have hk2 : 0 ≤ k ∧ k < 2 := by omega
  obtain ⟨k0, k1⟩ := hk2
  have hkw : IntKind.i64.wrap k = k := IntWalk.i64_in _ (by omega)
  have HK := Lib.hid (show k = 0 ∨ k = 1 by omega)
  have HQB := Lib.hid (And.intro hb0 (And.intro hb1 hb2))
  clear hb0 hb1 hb2
  clear hk
  go_enter Tryz.func9, Tryz.ntmps9
  go_wp2_with (go_at_call 12; fail)
  obtain ⟨W, hW⟩ : ∃ W, W = (w.alloc (Obj.cells (CfgRow a0 a1 a2 a3 a4 a5 a6) 23)).alloc (Obj.cells #[.int .u8 q0, .int .u8 q1, .int .u8 q2] 83) := ⟨_, rfl⟩
  have hT : Touch nob w W := by rw [hW]; (repeat (first | with_reducible exact Touch.refl _ _ | with_reducible assumption | with_reducible apply Touch.alloc | with_reducible apply Touch.drewN | with_reducible apply Touch.drew | with_reducible refine Touch.setCell ?_ (.inr (by first | omega | (simp; done) | (simp; omega))) _))
  have hbq : W.heap[w.heap.size + 1]? = some (Obj.cells #[.int .u8 q0, .int .u8 q1, .int .u8 q2] 83) := by rw [hW]; exact alloc2_1 w _ _
  obtain ⟨b0, hb0⟩ : ∃ b, b = w.heap.size := ⟨_, rfl⟩
  rw [← hW, ← hb0]
  rw [← hb0] at hbq
  have HB := Lib.hid hT
  have HBQ := Lib.hid hbq
  clear hW hb0 hT hbq
  refine (HC.out.2.1 W).mono ?_
  rintro e w1 ⟨rfl, hT1⟩
  have H1 := Lib.hid (HB.out.trans hT1)
  have HTa := Lib.hid hT1
  clear hT1
  go_wp2_with (go_at_call 51; fail)
  refine (law15_Made c l th z n4 HC.out.1 HC.out.2.2.1 HC.out.2.2.2.1 HC.out.2.2.2.2.1 HC.out.2.2.2.2.2 w1 (HL.out.old H1.out) (HTH.out.old H1.out)).mono ?_
  rintro e w2 ⟨W1, t1, A, m, rfl, hn, qx, O, h2⟩
  obtain ⟨p, hp⟩ : ∃ p, mdF c A.L.n (th.take 40) (newS0 z n4, fun _ => []) = p := ⟨_, rfl⟩
  rw [hp] at h2
  have H2 := Lib.hid (And.intro (H1.out.trans t1) h2)
  have HTb := Lib.hid (HTa.out.trans t1)
  clear t1 hn h2 hp
  go_wp2_with (go_at_call 32; fail)
  refine (law15_awake w2 (HL.out.old (H2.out.1.trans H2.out.2.base))).mono ?_
  rintro e w3 ⟨rfl, t3⟩
  have HTW := Lib.hid (HTab.out.touch H2.out.1 (fun x => x))
  have H3 : Hid (Touch nob w w3 ∧ Two W1 w3 A c p.1 p.2 O m qx) := ⟨(H2.out.1.trans H2.out.2.base).trans t3, H2.out.2.old t3⟩
  have HA3 : Hid (∀ b ∈ A.all, b < w3.heap.size) := H3.out.2.hp.at'.lt
  have hinb : Hid (∀ j, j ≤ (p.1.all c).length → (inB c 0 ((p.1.all c).take j)).length ≤ j) := fun j _ => by
    have h2 : (inB c 0 ((p.1.all c).take j)).length ≤ ((p.1.all c).take j).length := List.length_filter_le _ _
    rw [List.length_take] at h2
    omega
  have bx := H3.out.2.rv.boxes
  obtain ⟨U, hU⟩ : ∃ U, p.1.s.ks.length = U := ⟨_, rfl⟩
  rw [hU] at bx
  obtain ⟨d7, d1⟩ := bx
  have hqc : Hid (∀ wr, Touch nob W wr → wr.cell? ⟨b0 + 1, 0, none⟩ = some (.int .u8 q0) ∧ wr.cell? ⟨b0 + 1, 1, none⟩ = some (.int .u8 q1) ∧ wr.cell? ⟨b0 + 1, 2, none⟩ = some (.int .u8 q2)) := fun wr ht => by
    have h1 := blk_touch HBQ.out ht (fun x => x)
    exact ⟨by simp [World.cell?, h1], by simp [World.cell?, h1], by simp [World.cell?, h1]⟩
  clear t3
  by_cases hU0 : U = 0
  · subst hU0
    have HE := Lib.hid H3.out.1.below
    clear d1
    go_wp2
    go_ret
    exact ⟨rfl, HE.out⟩
  · obtain ⟨bb, hbb⟩ : ∃ bb : Nat, q0 % (U : Int) = bb := ⟨(q0 % (U : Int)).toNat, by have := Int.emod_nonneg q0 (show (U : Int) ≠ 0 by omega); omega⟩
    have hbU : bb < U := by have := Int.emod_lt_of_pos q0 (show (0 : Int) < U by omega); omega
    have hqb := HQB.out
    have hbt : q0.tmod U = bb := by rw [Int.tmod_eq_emod_of_nonneg hqb.1.1]; exact hbb
    have hUm : U ≤ 4096 := by
      have h1 := H3.out.2.rv.tb
      have h2 := h1.le
      have h3 := h1.hn
      obtain ⟨⟨u0, v0⟩, _⟩ := cfgOk_iff.1 h1.ok
      omega
    obtain ⟨⟨q00, q01⟩, ⟨q10, q11⟩, q20, q21⟩ := hqb
    have hw0 : IntKind.i64.wrap q0 = q0 := IntWalk.i64_in _ (by omega)
    have hwb : IntKind.i64.wrap (bb : Int) = bb := IntWalk.i64_in _ (by omega)
    have hU1 : ¬ (U : Int) = 0 := by omega
    have hU2 : ¬ (U : Int) = -1 := by omega
    obtain ⟨c0, c1', c2⟩ := hqc.out w3 (HTb.out.trans H3.out.2.base)
    go_wp2_with fail
    go_quiet (fail)
    generalize hw : World.drewN w3 _ = w4
    have t4 : Touch nob w3 w4 := by rw [← hw]; exact (Touch.refl _ _).drewN _
    have H4 : Hid (Touch nob w w4 ∧ Two W1 w4 A c p.1 p.2 O m qx ∧ Touch nob W w4) := ⟨H3.out.1.trans t4, H3.out.2.old t4, (HTb.out.trans H3.out.2.base).trans t4⟩
    clear hw t4 d1 d7 c0 c1' c2
    have HbU := Lib.hid (And.intro hU hbU)
    clear hU hbU
    go_wp2_with (go_at_call 25; fail)
    refine (sw_New_ok bb k H4.out.2.1.hp (by rw [HbU.out.1]; exact HbU.out.2) HK.out).mono ?_
    rintro e w5 ⟨q, v, rfl, t5, hq, hq1, cu, hv⟩
    obtain ⟨L, hL⟩ : ∃ L, slAt c p.1.s.ks bb = L := ⟨_, rfl⟩
    rw [hL] at cu
    have H5 : Hid (Touch nob w w5 ∧ Two W1 w5 A c p.1 p.2 O m qx ∧ Touch nob W w5 ∧ Cu w5 A q v L bb k ∧ w4.heap.size ≤ q ∧ ∀ g, v.ownBlock = some g → w4.heap.size ≤ g) := ⟨H4.out.1.trans t5, H4.out.2.1.old t5, H4.out.2.2.trans t5, cu, hq, hv⟩
    have HL' := Lib.hid hL
    have bx := H5.out.2.1.rv.boxes
    have sl := H5.out.2.1.rv.slots
    obtain ⟨d7, d1⟩ := bx
    obtain ⟨L0, hL0⟩ : ∃ L0, p.1.all c = L0 := ⟨_, rfl⟩
    rw [hL0] at sl
    obtain ⟨N0, hN0⟩ : ∃ N0, L0.length = N0 := ⟨_, rfl⟩
    rw [hN0] at sl
    have HL0 := Lib.hid (And.intro hL0 hN0)
    obtain ⟨ao0, cap0, d8, hsl⟩ := sl
    have HSL := Lib.hid hsl
    clear t5 hq hq1 cu hv hL hL0 hN0 hsl d7
    have hall : Hid (inB c bb (L0.take N0) = L ∧ L.length ≤ 128 ∧ 0 < L.length ∧ L.Nodup) := by
      have hb := H5.out.2.1.rv.tb
      refine ⟨?_, ?_, ?_, ?_⟩
      · rw [← HL0.out.2, List.take_length, ← HL0.out.1, ← HL'.out]
        unfold HS.all
        rw [inB_all hb, if_pos (by rw [HbU.out.1]; exact HbU.out.2)]
      · rw [← HL'.out]
        exact slAt_le
      · rw [← HL'.out]
        exact slAt_pos hb (by rw [HbU.out.1]; exact HbU.out.2)
      · rw [← HL'.out]
        exact (slAt_asc hb bb).imp fun h e => by omega
    have hN0 : N0 ≤ 4096 := by
      have h1 := sub_len (p.1.all c) ((List.range p.1.s.ws.length).map fun (x : Nat) => (x : Int) + 1) (all_nodup H5.out.2.1.rv.tb) (fun x hx => by
        obtain ⟨j, _, e, hj, _⟩ := H5.out.2.1.rv.inv.slot_of (H5.out.2.1.rv.tb.mem'.1 hx)
        exact List.mem_map.2 ⟨j, List.mem_range.2 hj, e.symm⟩)
      rw [List.length_map, List.length_range, HL0.out.1, HL0.out.2] at h1
      have := H5.out.2.1.rv.hz
      omega
    have HD := Lib.hid (And.intro d8 d1)
    clear d8 d1
    go_wp2_with fail
    go_loopw [13, 14] (fun n i wr => ∃ j : Nat, j ≤ N0 ∧ i = .int .i64 j ∧ n = .int .i64 ((inB c bb (L0.take j)).length : Nat) ∧ Hid (Touch nob w5 wr)) (fun _ i _ => N0 - (intOf i).toNat)
    case atStart => exact ⟨0, Nat.zero_le _, rfl, rfl, Touch.refl _ _⟩
    case round =>
      obtain ⟨j, hj, rfl, rfl, HR⟩ := hrel
      have d8 := (HR.out.cell (cell_lt HD.out.1) (fun x => x)).trans HD.out.1
      have d1 := (HR.out.cell (cell_lt HD.out.2) (fun x => x)).trans HD.out.2
      by_cases hlt : j < N0
      · have hjb : (j : Int) < (N0 : Int) := by omega
        obtain ⟨g, rfl, hcap, e0⟩ := HSL.out j hlt
        have e0' := (HR.out.cell (cell_lt e0) (fun x => x)).trans e0
        have hjl : j < L0.length := by rw [HL0.out.2]; exact hlt
        obtain ⟨a, ha⟩ : ∃ a, L0.getD j 0 = a := ⟨_, rfl⟩
        have hL0j : L0[j]? = some a := by rw [← ha, List.getD_eq_getElem?_getD, List.getElem?_eq_getElem hjl]; rfl
        have hmem : a ∈ p.1.all c := by rw [HL0.out.1]; exact List.mem_of_getElem? hL0j
        have hbd := own_bd (H5.out.2.1.rv.tb.mem'.1 hmem)
        rw [ha] at e0'
        have hc1 := c1_bd H5.out.2.1.rv.inv.ok
        have hlen := H5.out.2.1.rv.inv.len
        have hz := H5.out.2.1.rv.hz
        have hq : (a - 1).tdiv c.c1 = (a - 1) / c.c1 := Int.tdiv_eq_ediv_of_nonneg (by omega)
        have hw1 : IntKind.i64.wrap (a - 1) = a - 1 := IntWalk.i64_in _ (by omega)
        have hc10 : ¬ c.c1 = 0 := by omega
        have hc1m : ¬ c.c1 = -1 := by omega
        have hqb : 0 ≤ (a - 1) / c.c1 ∧ (a - 1) / c.c1 ≤ a - 1 := ⟨Int.ediv_nonneg (by omega) (by omega), Int.ediv_le_self _ (by omega)⟩
        have HT := Lib.hid (inB_take (c := c) (b := bb) L0 hL0j)
        have hcl : Hid ((inB c bb (L0.take j)).length ≤ 4096) := by
          have h2 : (inB c bb (L0.take j)).length ≤ (L0.take j).length := List.length_filter_le _ _
          rw [List.length_take] at h2
          show _ ≤ _
          omega
        obtain ⟨Q, hQ⟩ : ∃ Q, (a - 1) / c.c1 = Q := ⟨_, rfl⟩
        rw [hQ] at hq hqb HT
        have hwQ : IntKind.i64.wrap Q = Q := IntWalk.i64_in _ (by omega)
        obtain ⟨nn, hnn⟩ : ∃ nn, (inB c bb (L0.take j)).length = nn := ⟨_, rfl⟩
        have hcn : nn ≤ 4096 := by rw [← hnn]; exact hcl.out
        rw [hnn]
        have HNN := Lib.hid hnn
        clear e0 hjl ha hL0j hmem hbd hc1 hlen hz hqb hQ hnn
        by_cases hQb : Q = (bb : Int)
        · subst hQb
          go_wp2_with fail
          go_quiet (fail)
          go_wp2
          go_roundw
          case rel =>
            refine ⟨j + 1, by omega, by go_num, ?_, HR.out.drewN _⟩
            rw [HT.out]
            simp only [if_true]
            rw [List.length_append, HNN.out]
            go_num
          case measure => simp [intOf]; omega
        · have hQf : (Q == (bb : Int)) = false := by simpa using hQb
          go_wp2_with fail
          go_quiet (fail)
          go_wp2
          go_roundw
          case rel =>
            refine ⟨j + 1, by omega, by go_num, ?_, HR.out.drewN _⟩
            rw [HT.out, if_neg hQb, List.append_nil, HNN.out]
          case measure => simp [intOf]; omega
      · have hjb : ¬ (j : Int) < (N0 : Int) := by omega
        have HJ : Hid ((inB c bb (L0.take j)).length = L.length) := by
          show _ = _
          rw [show j = N0 by omega, hall.out.1]
        rw [HJ.out]
        obtain ⟨z, hz⟩ : ∃ z, L.length = z := ⟨_, rfl⟩
        rw [hz]
        have HZ := Lib.hid hz
        have hz1 : 0 < z ∧ z ≤ 128 := by rw [← hz]; exact ⟨hall.out.2.2.1, hall.out.2.1⟩
        have hcu := H5.out.2.2.2.1.old HR.out
        have HCU := Lib.hid hcu
        have hle := sw_Left hcu
        rw [hz] at hle
        have HLE := Lib.hid hle
        have HCB := Lib.hid (sw_CBlock hcu)
        obtain ⟨z0, z1⟩ := hz1
        clear hj hlt hz hcu hle d1
        go_wp2_with (go_at_call 30; fail)
        refine HLE.out.mono ?_
        rintro e w6 ⟨rfl, rfl⟩
        go_wp2_with (go_at_call 31; fail)
        refine HCB.out.mono ?_
        rintro e w6 ⟨rfl, rfl⟩
        obtain ⟨i0, hinf, hz0, hz1', hz2⟩ := info_parts info_int2
        have hO4 : ∀ g, O g → g < w4.heap.size := fun g hg => by
          obtain ⟨⟨R, ⟨_, _, _, hb⟩, _⟩, _⟩ := H4.out.2.1.rv
          exact hb.lt g hg
        obtain ⟨nA, hnA⟩ : ∃ nA, A.L.n = nA := ⟨_, rfl⟩
        have HnA := Lib.hid hnA
        have S0 : Hid (∃ br S H, br.length ≤ 0 ∧ StI W1 wr A c A.L.n p O m qx q bb k L w4.heap.size 0 (.slice none 0 0) (.slice none 0 0) br S H) :=
          ⟨[], p.1, p.2, Nat.le_refl _, (H5.out.2.1.old HR.out).hp, (H5.out.2.1.old HR.out).rv, fun _ _ => rfl, ⟨v, HCU.out, fun g hg => ⟨H5.out.2.2.2.2.2 g hg, fun e => (by cases e), fun e => (by cases e)⟩⟩, World.ownsRow_nil _ _ _ _, World.ownsRow_nil _ _ _ _, fun x hx => (List.not_mem_nil hx).elim, fun e => (by cases e), fun e => (by cases e), fun g e => (by cases e), H5.out.2.1.rv.hz, H4.out.2.1.hp.at'.lt, hO4, H5.out.2.2.2.2.1, H4.out.2.1.base.size⟩
        obtain ⟨rr, hrr⟩ : ∃ rr : Nat, q2 % (z : Int) = rr := ⟨(q2 % (z : Int)).toNat, by have := Int.emod_nonneg q2 (show (z : Int) ≠ 0 by omega); omega⟩
        have hrt : q2.tmod z = rr := by rw [Int.tmod_eq_emod_of_nonneg q20]; exact hrr
        have hwq2 : IntKind.i64.wrap q2 = q2 := IntWalk.i64_in _ (by omega)
        have hrz : rr < z := by have := Int.emod_lt_of_pos q2 (show (0 : Int) < z by omega); omega
        have hwrr : IntKind.i64.wrap (rr : Int) = rr := IntWalk.i64_in _ (by omega)
        have hzz0 : ¬ (z : Int) = 0 := by omega
        have hzzm : ¬ (z : Int) = -1 := by omega
        have hFl : Hid (∀ j, ((L.take j).filter fun x => p.1.gone k x).length ≤ 128) := fun j => by
          have h2 : ((L.take j).filter fun x => p.1.gone k x).length ≤ (L.take j).length := List.length_filter_le _ _
          rw [List.length_take] at h2
          have := hall.out.2.1
          omega
        clear hO4 hnA d8 hrr
        go_wp2_with fail
        go_loopw [15, 16, 17] (fun vf vb i wr => ∃ j : Nat, j ≤ z ∧ i = .int .i64 j ∧ Hid (∃ br S H, br.length ≤ j ∧ StI W1 wr A c A.L.n p O m qx q bb k L w4.heap.size j vf vb br S H)) (fun _ _ i _ => z - (intOf i).toNat)
        case atStart => exact ⟨0, Nat.zero_le _, rfl, S0.out⟩
        case round =>
          obtain ⟨j, hj, rfl, HR2⟩ := hrel
          clear S0
          obtain ⟨br, S, H, hbl, hs⟩ := HR2.out
          have HSt := Lib.hid hs
          have HBl := Lib.hid hbl
          obtain ⟨-, -, c2⟩ := hqc.out _ (HTb.out.trans hs.hp.at'.base)
          clear hs hbl HR2
          by_cases hlt : j < z
          · have hjl : j < L.length := by rw [HZ.out]; exact hlt
            obtain ⟨a, ha⟩ : ∃ a, L[j]? = some a := ⟨_, List.getElem?_eq_getElem hjl⟩
            have HDR : Hid (L.drop j = a :: L.drop (j + 1)) := by
              show _ = _
              rw [List.drop_eq_getElem_cons hjl]
              congr 1
              rw [List.getElem?_eq_getElem hjl] at ha
              exact Option.some.inj ha
            have hjb : (j : Int) < (z : Int) := by omega
            have HFL := Lib.hid (hFl.out j)
            obtain ⟨v7, hcu7, -⟩ := HSt.out.cu
            have hd := sw_Done hcu7
            have hle := sw_Left hcu7
            have hdl : (L.drop j).length = z - j := by rw [List.length_drop, HZ.out]
            rw [hdl] at hd hle
            rw [show decide (z - j = 0) = false from decide_eq_false (by omega)] at hd
            rw [show ((z - j : Nat) : Int) = (z : Int) - j by omega] at hle
            have HDL := Lib.hid (And.intro hd hle)
            have hwzj : IntKind.i64.wrap ((z : Int) - j) = (z : Int) - j := IntWalk.i64_in _ (by omega)
            clear hjl ha hcu7 hd hle hdl
            go_wp2_with (go_at_call 29; fail)
            refine HDL.out.1.mono ?_
            rintro e w6 ⟨rfl, rfl⟩
            go_wp2_with (go_at_call 30; fail)
            refine HDL.out.2.mono ?_
            rintro e w6 ⟨rfl, rfl⟩
            by_cases hjr : j = rr
            · subst hjr
              have hjj : ((j : Int) == (j : Int)) = true := by simp
              have hmk := mak_gone (f := 1) (col := k) (nn := A.L.n) HSt.out.hp.inv HSt.out.hp.tb.hn HK.out
              have hmc := hp_Make 1 k HSt.out.hp
              obtain ⟨E, hE⟩ : ∃ E, makE S H A.L.n 1 k = E := ⟨_, rfl⟩
              obtain ⟨V, hV⟩ : ∃ V, makV S H c A.L.n 1 k = V := ⟨_, rfl⟩
              obtain ⟨S8, hS8⟩ : ∃ S8, makS S H c A.L.n 1 k = S8 := ⟨_, rfl⟩
              obtain ⟨H8, hH8⟩ : ∃ H8, makH S H c A.L.n 1 k = H8 := ⟨_, rfl⟩
              rw [hE, hV, hS8] at hmk
              rw [hE, hV, hS8, hH8] at hmc
              have HMK := Lib.hid hmk
              have HMC := Lib.hid hmc
              clear hmk hmc hE hV hS8 hH8
              go_wp2_with (go_at_call 39; fail)
              refine HMC.out.mono ?_
              rintro e w8 ⟨rfl, t8, hp8⟩
              have HS8 := Lib.hid (HSt.out.heap H5.out.2.1.ap t8 hp8 HMK.out.1 HMK.out.2.1 HMK.out.2.2.2)
              have HT8 := Lib.hid t8.size
              clear t8 hp8
              by_cases hE0 : E = 0
              · subst hE0
                have HB8 : Hid (w4.heap.size ≤ w8.heap.size) := by
                  obtain ⟨v9, hcu9, -⟩ := HS8.out.cu
                  have h1 := HS8.out.hq
                  have h2 := blk_lt hcu9.box
                  show _ ≤ _
                  omega
                have HOb := Lib.hid HS8.out.ob
                go_wp2_with (first | (at_builtin; refine wpList_append_own_at _ rfl _ _ 46 rfl w4.heap.size 3 i0 (.int .i64 0) 1 8 Tryz.underlying46 hinf hz0 hz1' hz2 rfl (by decide) _ _ _ rfl (HOb.out.alloc _) ⟨w8.heap.size, 0, none⟩ 1 1 [.int .i64 V] rfl rfl (World.news_of_block (World.alloc_heap_new _ _)) (ints_oneCell _ [V]) (by have := HBl.out; unfold maxLen; omega) (by have := HBl.out; omega) (by have := HB8.out; simp; omega) ?_; intro v11 w11 hown hgrow _ hat; have HS11 := Lib.hid (HS8.out.born (HMK.out.2.2.1 (by first | rfl | trivial)) hown hgrow hat); clear hown hgrow hat) | fail)
                have HBR := Lib.hid (show (br ++ [V]).length ≤ j + 1 by rw [List.length_append]; have := HBl.out; simp; omega)
                obtain ⟨v9, hcu9, hv9⟩ := HS11.out.cu
                have HSZ : Hid (w4.heap.size ≤ w11.heap.size) := by have h1 := HS11.out.hq; have h2 := blk_lt hcu9.box; show _ ≤ _; omega
                have hdr : L.drop j = a :: L.drop (j + 1) := HDR.out
                have hcu9' := hcu9
                rw [hdr] at hcu9'
                have hst := sw_Step a hcu9' HS11.out.hp (Nat.le_trans HS11.out.hW HS11.out.hq)
                obtain ⟨G, hG⟩ : ∃ G, HS.gone S8 k a = G := ⟨_, rfl⟩
                rw [hG] at hst
                have HST := Lib.hid hst
                have HGo := Lib.hid (And.intro hG hv9)
                clear hst hG hcu9 hcu9' hdr hv9
                go_wp2_with (go_at_call 28; fail)
                refine HST.out.mono ?_
                rintro e w20 ⟨rfl, st⟩
                have HX := Lib.hid st
                have hof := HS11.out.stepW H5.out.2.1.ap hall.out.2.2.2 HDR.out HGo.out.2 st
                have HOF := Lib.hid (And.intro hof.2.2.2.2.2.1 hof.2.1.at'.base.size)
                clear st hof
                cases G with
                | false =>
                  simp only [Bool.false_eq_true, if_false]
                  go_wp2
                  go_roundw
                  case rel => exact ⟨j + 1, by omega, by go_num, (br ++ [V]), _, _, HBR.out, HS11.out.step_no H5.out.2.1.ap hall.out.2.2.2 HDR.out HGo.out.2 HGo.out.1 HX.out⟩
                  case measure => simp [intOf]; omega
                | true =>
                  simp only [if_true]
                  go_wp2_with (at_builtin; refine wpList_append_own_at _ rfl _ _ 46 rfl w4.heap.size 3 i0 (.int .i64 0) 1 8 Tryz.underlying46 hinf hz0 hz1' hz2 rfl (by decide) _ _ _ rfl (HOF.out.1.alloc _) ⟨w20.heap.size, 0, none⟩ 1 1 [.int .i64 a] rfl rfl (World.news_of_block (World.alloc_heap_new _ _)) (ints_oneCell _ [a]) (by have := HFL.out; unfold maxLen; omega) (by have := HFL.out; omega) (by have := HX.out.t.size; have := HSZ.out; simp; omega) ?_; intro v21 w21 hown hgrow _ hat; have H21 := Lib.hid (HS11.out.step_yes H5.out.2.1.ap hall.out.2.2.2 HDR.out HGo.out.2 HGo.out.1 HX.out hown hgrow hat); clear hown hgrow hat)
                  go_roundw
                  case rel => exact ⟨j + 1, by omega, by go_num, (br ++ [V]), _, _, HBR.out, H21.out⟩
                  case measure => simp [intOf]; omega
              · have hEb : (E == 0) = false := by simpa using hE0
                have HBR := Lib.hid (show br.length ≤ j + 1 from Nat.le_succ_of_le HBl.out)
                obtain ⟨v9, hcu9, hv9⟩ := HS8.out.cu
                have HSZ : Hid (w4.heap.size ≤ w8.heap.size) := by have h1 := HS8.out.hq; have h2 := blk_lt hcu9.box; show _ ≤ _; omega
                have hdr : L.drop j = a :: L.drop (j + 1) := HDR.out
                have hcu9' := hcu9
                rw [hdr] at hcu9'
                have hst := sw_Step a hcu9' HS8.out.hp (Nat.le_trans HS8.out.hW HS8.out.hq)
                obtain ⟨G, hG⟩ : ∃ G, HS.gone S8 k a = G := ⟨_, rfl⟩
                rw [hG] at hst
                have HST := Lib.hid hst
                have HGo := Lib.hid (And.intro hG hv9)
                clear hst hG hcu9 hcu9' hdr hv9
                go_wp2_with (go_at_call 28; fail)
                refine HST.out.mono ?_
                rintro e w20 ⟨rfl, st⟩
                have HX := Lib.hid st
                have hof := HS8.out.stepW H5.out.2.1.ap hall.out.2.2.2 HDR.out HGo.out.2 st
                have HOF := Lib.hid (And.intro hof.2.2.2.2.2.1 hof.2.1.at'.base.size)
                clear st hof
                cases G with
                | false =>
                  simp only [Bool.false_eq_true, if_false]
                  go_wp2
                  go_roundw
                  case rel => exact ⟨j + 1, by omega, by go_num, br, _, _, HBR.out, HS8.out.step_no H5.out.2.1.ap hall.out.2.2.2 HDR.out HGo.out.2 HGo.out.1 HX.out⟩
                  case measure => simp [intOf]; omega
                | true =>
                  simp only [if_true]
                  go_wp2_with (at_builtin; refine wpList_append_own_at _ rfl _ _ 46 rfl w4.heap.size 3 i0 (.int .i64 0) 1 8 Tryz.underlying46 hinf hz0 hz1' hz2 rfl (by decide) _ _ _ rfl (HOF.out.1.alloc _) ⟨w20.heap.size, 0, none⟩ 1 1 [.int .i64 a] rfl rfl (World.news_of_block (World.alloc_heap_new _ _)) (ints_oneCell _ [a]) (by have := HFL.out; unfold maxLen; omega) (by have := HFL.out; omega) (by have := HX.out.t.size; have := HSZ.out; simp; omega) ?_; intro v21 w21 hown hgrow _ hat; have H21 := Lib.hid (HS8.out.step_yes H5.out.2.1.ap hall.out.2.2.2 HDR.out HGo.out.2 HGo.out.1 HX.out hown hgrow hat); clear hown hgrow hat)
                  go_roundw
                  case rel => exact ⟨j + 1, by omega, by go_num, br, _, _, HBR.out, H21.out⟩
                  case measure => simp [intOf]; omega
            · have hjr2 : ((j : Int) == (rr : Int)) = false := by simp only [beq_eq_false_iff_ne, ne_eq]; omega
              have HBR := Lib.hid (show br.length ≤ j + 1 from Nat.le_succ_of_le HBl.out)
              obtain ⟨v9, hcu9, hv9⟩ := HSt.out.cu
              have HSZ : Hid (w4.heap.size ≤ wr.heap.size) := by have h1 := HSt.out.hq; have h2 := blk_lt hcu9.box; show _ ≤ _; omega
              have hdr : L.drop j = a :: L.drop (j + 1) := HDR.out
              have hcu9' := hcu9
              rw [hdr] at hcu9'
              have hst := sw_Step a hcu9' HSt.out.hp (Nat.le_trans HSt.out.hW HSt.out.hq)
              obtain ⟨G, hG⟩ : ∃ G, HS.gone S k a = G := ⟨_, rfl⟩
              rw [hG] at hst
              have HST := Lib.hid hst
              have HGo := Lib.hid (And.intro hG hv9)
              clear hst hG hcu9 hcu9' hdr hv9
              go_wp2_with (go_at_call 28; fail)
              refine HST.out.mono ?_
              rintro e w20 ⟨rfl, st⟩
              have HX := Lib.hid st
              have hof := HSt.out.stepW H5.out.2.1.ap hall.out.2.2.2 HDR.out HGo.out.2 st
              have HOF := Lib.hid (And.intro hof.2.2.2.2.2.1 hof.2.1.at'.base.size)
              clear st hof
              cases G with
              | false =>
                simp only [Bool.false_eq_true, if_false]
                go_wp2
                go_roundw
                case rel => exact ⟨j + 1, by omega, by go_num, br, _, _, HBR.out, HSt.out.step_no H5.out.2.1.ap hall.out.2.2.2 HDR.out HGo.out.2 HGo.out.1 HX.out⟩
                case measure => simp [intOf]; omega
              | true =>
                simp only [if_true]
                go_wp2_with (at_builtin; refine wpList_append_own_at _ rfl _ _ 46 rfl w4.heap.size 3 i0 (.int .i64 0) 1 8 Tryz.underlying46 hinf hz0 hz1' hz2 rfl (by decide) _ _ _ rfl (HOF.out.1.alloc _) ⟨w20.heap.size, 0, none⟩ 1 1 [.int .i64 a] rfl rfl (World.news_of_block (World.alloc_heap_new _ _)) (ints_oneCell _ [a]) (by have := HFL.out; unfold maxLen; omega) (by have := HFL.out; omega) (by have := HX.out.t.size; have := HSZ.out; simp; omega) ?_; intro v21 w21 hown hgrow _ hat; have H21 := Lib.hid (HSt.out.step_yes H5.out.2.1.ap hall.out.2.2.2 HDR.out HGo.out.2 HGo.out.1 HX.out hown hgrow hat); clear hown hgrow hat)
                go_roundw
                case rel => exact ⟨j + 1, by omega, by go_num, br, _, _, HBR.out, H21.out⟩
                case measure => simp [intOf]; omega
          · have hjb : ¬ (j : Int) < (z : Int) := by omega
            obtain ⟨v7, hcu7, -⟩ := HSt.out.cu
            have hjz : j = z := by omega
            rw [List.drop_eq_nil_of_le (by rw [HZ.out]; omega)] at hcu7
            have HCU7 := Lib.hid hcu7
            have HJZ := Lib.hid hjz
            have HF : Hid (Ow wr w4.heap.size u15 (L.filter fun x => p.1.gone k x)) := by
              have h1 := HSt.out.of'
              rw [List.take_of_length_le (by rw [HZ.out]; omega)] at h1
              exact h1
            obtain ⟨nb, hnb⟩ : ∃ nb, br.length = nb := ⟨_, rfl⟩
            obtain ⟨ab, cb, eb⟩ := HSt.out.ob.ints.shape
            rw [hnb] at eb
            subst eb
            have HNB := Lib.hid hnb
            have hnb1 : nb ≤ 128 := by have := HBl.out; omega
            clear hcu7 hjz hnb
            go_wp2_with (go_at_call 28; fail)
            refine (sw_Step_done HCU7.out).mono ?_
            rintro e w6 ⟨rfl, rfl⟩
            go_wp2_with (go_at_call 29; fail)
            refine (sw_Done HCU7.out).mono ?_
            rintro e w6 ⟨rfl, rfl⟩
            rw [show decide (([] : List Int).length = 0) = true from rfl]
            go_wp2_with (go_at_call 30; fail)
            refine (sw_Left HCU7.out).mono ?_
            rintro e w6 ⟨rfl, rfl⟩
            rw [show ((([] : List Int).length : Nat) : Int) = 0 from rfl]
            go_wp2_with fail
            go_loopw [24] (fun i w2 => ∃ t : Nat, t ≤ nb ∧ i = .int .i64 t ∧ w2 = wr) (fun i _ => nb - (intOf i).toNat)
            case atStart => exact ⟨0, Nat.zero_le _, rfl, rfl⟩
            case round =>
              obtain ⟨t, ht, rfl, rfl⟩ := hrel
              by_cases hlt2 : t < nb
              · have htb : (t : Int) < (nb : Int) := by omega
                obtain ⟨g, rfl, hcap, hcell⟩ := own_at HSt.out.ob rfl HNB.out hlt2
                obtain ⟨x, hx⟩ : ∃ x, br.getD t 0 = x := ⟨_, rfl⟩
                rw [hx] at hcell
                have hxm : x ∈ br := by
                  have : t < br.length := by rw [HNB.out]; exact hlt2
                  rw [← hx, List.getD_eq_getElem?_getD, List.getElem?_eq_getElem this]
                  exact List.getElem_mem _
                have his := heap_Is x HSt.out.hp.at'
                rw [(HSt.out.bo x hxm).1] at his
                have HIS := Lib.hid his
                clear hx hxm his
                go_wp2_with (go_at_call 23; fail)
                refine HIS.out.mono ?_
                rintro e w6 ⟨rfl, rfl⟩
                go_wp2
                go_roundw
                case rel => exact ⟨t + 1, by omega, by first | (go_num; done) | trivial⟩
                case measure => first | (simp [intOf]; done) | (simp [intOf]; omega)
              · have htb : ¬ (t : Int) < (nb : Int) := by omega
                clear ht hlt2
                go_wp2_with (go_at_call 54; fail)
                refine (law15_swept p k bb HSt.out.rv (by rw [HbU.out.1]; exact HbU.out.2)).mono ?_
                rintro e w30 ⟨v30, rfl, O30, sw⟩
                have hsl := swL_filter (col := k) (slAt c p.1.s.ks bb) p HSt.out.rv.inv (by rw [HL'.out]; exact hall.out.2.2.2)
                have how := sw.ow
                rw [hsl, HL'.out] at how
                have hT := sw.t
                obtain ⟨a3, n3, c3, rfl⟩ := how.ints.shape'
                have hO4 : ∀ g, O g → g < w4.heap.size := HSt.out.hO
                have H30 : Hid (HpI W1 w30 A c S H ∧ Ow w30 w4.heap.size u15 (L.filter fun x => p.1.gone k x)) := ⟨HSt.out.hp.touch (HSt.out.hp.at'.base.step hT (fun g hg => .inr (H5.out.2.1.hO g hg))) hT H5.out.2.1.ap, HF.out.touch hT (fun g hg hO => by
                  have h1 := hO4 g hO
                  have h2 := HF.out.new g hg
                  omega)⟩
                have HW30 := Lib.hid how
                have HFL : Hid ((L.filter fun x => p.1.gone k x).length ≤ 1048576) := by
                  have h2 : (L.filter fun x => p.1.gone k x).length ≤ L.length := List.length_filter_le _ _
                  have := hall.out.2.1
                  show _ ≤ _
                  omega
                clear sw hsl how hT hO4
                go_wp2_with (go_at_call 52; fail)
                refine (ref01_Same _ _ (L.filter fun x => p.1.gone k x) w30 H30.out.2.ints HW30.out.ints HFL.out).mono ?_
                rintro e w31 ⟨rfl, t31⟩
                have H31 : Hid (HpI W1 w31 A c S H) := H30.out.1.old t31
                clear t31
                go_wp2_with (go_at_call 33; fail)
                refine (law11_Parted H31.out HTW.out HSt.out.len).mono ?_
                rintro e w32 ⟨rfl, t32, hp32⟩
                have H32 := Lib.hid ((H2.out.1.trans hp32.at'.base).below)
                clear t32 hp32
                go_wp2
                go_ret
                exact ⟨rfl, H32.out⟩
end Go.Proofs.YtflhjbmoncbomaaGreatDoor
