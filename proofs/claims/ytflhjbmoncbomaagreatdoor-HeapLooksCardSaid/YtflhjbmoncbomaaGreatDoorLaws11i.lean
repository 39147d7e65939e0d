/- HeapLooks, walked. Conditions: the tables of limits and of sizes read as laid. -/
import Derived.Test.YtflhjbmoncbomaaGreatDoorLaws11g
namespace Go.Proofs.YtflhjbmoncbomaaGreatDoor
open Go.RowKit

set_option maxRecDepth 10000 in
set_option maxHeartbeats 4000000 in
theorem law_HeapLooks {w : World} (a0 : Int) (_ : (Lit.int .i64 a0).wf = true) (a1 : Int) (_ : (Lit.int .i64 a1).wf = true) (a2 : Int) (_ : (Lit.int .i64 a2).wf = true) (a3 : Int) (_ : (Lit.int .i64 a3).wf = true) (a4 : Int) (_ : (Lit.int .i64 a4).wf = true) (a5 : Int) (_ : (Lit.int .i64 a5).wf = true) (a6 : Int) (_ : (Lit.int .i64 a6).wf = true) (l : Value) (rows : List (List Value)) (hl : IsSlice w l [some .u8, some .i64, some .i64, some .i64] rows) (q_0 : Int) (_ : (Lit.int .i64 q_0).wf = true) (q_1 : Int) (_ : (Lit.int .i64 q_1).wf = true) (q_2 : Int) (_ : (Lit.int .i64 q_2).wf = true) (hLim : Limits w) (hS : Sizes w) :
    Calls Tryz.prog 3 #[CfgV a0 a1 a2 a3 a4 a5 a6, l, .agg #[.int .i64 q_0, .int .i64 q_1, .int .i64 q_2]] w fun e w' => e = .returned (.bool true) ∧ Below w.heap.size w w' := by
  obtain ⟨N, hI0, -⟩ := rows_of_slice hl (by simp)
  obtain ⟨av, cap, rfl, hI⟩ := deed_cells hI0
  have HI := Lib.hid hI
  clear hI0
  have HL := Lib.hid (Laid.mk hLim hS)
  clear hLim hS hl hI
  obtain ⟨c, hc⟩ : ∃ c, little ⟨a0, a1, a2, a3, a4, a5, a6⟩ = c := ⟨_, rfl⟩
  have hok : c.ok = true := by rw [← hc]; exact little_ok _
  have hc4 : 0 ≤ c.c4 ∧ c.c4 ≤ 3 := by rw [← hc]; simp only [little]; omega
  have hc01 : (0 ≤ c.c0 ∧ c.c0 ≤ 4) ∧ 0 ≤ c.c1 ∧ c.c1 ≤ 36 := by rw [← hc]; simp only [little]; omega
  have hlit := ref02_Little ⟨a0, a1, a2, a3, a4, a5, a6⟩
  rw [hc] at hlit
  have HC := Lib.hid (And.intro hok (And.intro hlit (And.intro hc4 hc01)))
  clear hok hlit hc hc4 hc01
  go_enter Tryz.func3, Tryz.ntmps3
  go_wp2_with fail
  obtain ⟨W, hW⟩ : ∃ W, W = (w.alloc (Obj.cells (CfgRow a0 a1 a2 a3 a4 a5 a6) 23)).alloc (Obj.cells #[.int .i64 q_0, .int .i64 q_1, .int .i64 q_2] 25) := ⟨_, rfl⟩
  have hT : Touch nob w W := by rw [hW]; (repeat (first | with_reducible exact Touch.refl _ _ | with_reducible assumption | with_reducible apply Touch.alloc | with_reducible apply Touch.drewN | with_reducible apply Touch.drew | with_reducible refine Touch.setCell ?_ (.inr (by first | omega | (simp; done) | (simp; omega))) _))
  have hbx : W.heap[w.heap.size]? = some (Obj.cells (CfgRow a0 a1 a2 a3 a4 a5 a6) 23) := by rw [hW]; exact alloc2_0 w _ _
  have hbq : W.heap[w.heap.size + 1]? = some (Obj.cells #[.int .i64 q_0, .int .i64 q_1, .int .i64 q_2] 25) := by rw [hW]; exact alloc2_1 w _ _
  obtain ⟨b0, hb0⟩ : ∃ b, b = w.heap.size := ⟨_, rfl⟩
  rw [← hW, ← hb0]
  rw [← hb0] at hbx hbq
  have hbq : Hid (W.heap[b0 + 1]? = some (Obj.cells #[.int .i64 q_0, .int .i64 q_1, .int .i64 q_2] 25)) := hbq
  refine (HC.out.2.1 W).mono ?_
  rintro e w1 ⟨rfl, hT1⟩
  have hb1 := blk_touch hbx hT1 (fun x => x)
  obtain ⟨y0, y1, y2, y3, y4, y5, y6⟩ := cfg_box hb1 (Touch.refl _ _)
  have f0 : ∀ j, w1.frozen? ⟨b0, j, none⟩ = false := fun j => by simp [World.frozen?, hb1]
  have g0 := f0 0; have g1 := f0 1; have g2 := f0 2; have g3 := f0 3; have g4 := f0 4; have g5 := f0 5; have g6 := f0 6
  obtain ⟨W3, hW3⟩ : ∃ W3, W3 = set7 w1 b0 (.int .i64 c.c0) (.int .i64 c.c1) (.int .i64 c.c2) (.int .i64 c.c3) (.int .i64 c.c4) (.int .i64 c.c5) (.int .i64 c.c6) := ⟨_, rfl⟩
  have hc3 : W3.heap[b0]? = some (Obj.cells (CfgRow c.c0 c.c1 c.c2 c.c3 c.c4 c.c5 c.c6) 23) := by rw [hW3]; exact set7_at _ _ _ _ _ _ _ _ hb1
  have hT3 : Touch nob w W3 := by rw [hW3]; exact set7_touch _ _ _ _ _ _ _ (by omega) (hT.trans hT1)
  have HO1 : Hid (∀ k o, k ≠ b0 → W.heap[k]? = some o → W3.heap[k]? = some o) := fun k o hk h => by rw [hW3]; exact (set7_other _ _ _ _ _ _ _ _ hk).trans (blk_touch h hT1 (fun x => x))
  have H3 := Lib.hid (And.intro hT3 hc3)
  clear hT hbx hT1 hb1 f0 hc3 hT3 hW hb0
  by_cases h60 : N ≤ 60
  · skip
    go_wp2_with (go_at_call 13; fail)
    simp only [set7] at hW3
    rw [← hW3]
    clear hW3 y0 y1 y2 y3 y4 y5 y6 g0 g1 g2 g3 g4 g5 g6
    refine (law11_awake W3 (HL.out.old H3.out.1)).mono ?_
    rintro e w4 ⟨rfl, hT4⟩
    obtain ⟨y0, y1, y2, y3, y4, y5, y6⟩ := cfg_box H3.out.2 hT4
    have HT4 := Lib.hid (And.intro (H3.out.1.trans hT4) (And.intro (blk_touch H3.out.2 hT4 (fun x => x)) (blk_touch (HO1.out _ _ (by omega) hbq.out) hT4 (fun x => x))))
    clear hT4
    go_wp2_with (go_at_call 14; fail)
    refine (heap_New_ok c w4 (HL.out.old HT4.out.1) HC.out.1).mono ?_
    rintro e w5 ⟨A, z, n, rfl, hz, hbn, hn, h5⟩
    have hz1 : z ≤ 144 := by
      have hc01 := HC.out.2.2.2
      have := (mul_bd (a := c.c0) (b := c.c1) (A := 4) (B := 36) hc01.1.1 hc01.1.2 hc01.2.1 hc01.2.2).2
      omega
    have hn3 : n ≤ 3 := by have := HC.out.2.2.1; omega
    obtain ⟨y0, y1, y2, y3, y4, y5, y6⟩ := cfg_box HT4.out.2.1 h5.at'.base
    have H5 := Lib.hid (And.intro h5 (And.intro hz (And.intro hbn (And.intro hn (And.intro hz1 hn3)))))
    clear h5 hz hbn hn hz1 hn3
    go_wp2_with (go_at_call 15; fail)
    refine (rf_New c n H5.out.2.2.2.1.symm (by have := H5.out.2.2.2.2.2; omega) w5).mono ?_
    rintro e w6 ⟨m, qx, O, rfl, t6, hO, r6⟩
    have H6 : Hid (PlI w4 w6 A c m qx) := ⟨_, _, O, Two.start H5.out.1 t6 hO r6 HC.out.1 H5.out.2.1 (by have := H5.out.2.2.2.2.1; omega) H5.out.2.2.1, by show (List.replicate n (0 : Int)).length ≤ 64; rw [List.length_replicate]; have := H5.out.2.2.2.2.2; omega⟩
    clear t6 hO r6 y0 y1 y2 y3 y4 y5 y6
    go_wp2_with fail
    go_loopw [10] (fun i wr => ∃ j : Nat, j ≤ N ∧ i = .int .i64 j ∧ Hid (PlI w4 wr A c m qx)) (fun i _ => N - (intOf i).toNat)
    case atStart => exact ⟨0, Nat.zero_le _, rfl, H6.out⟩
    case round =>
      obtain ⟨j, hj, rfl, HR⟩ := hrel
      clear H6
      by_cases hlt : j < N
      · have hb : (j : Int) < (N : Int) := by omega
        obtain ⟨b, o, k, a, x, y, hav, hcap, y0, y1, y2, y3⟩ := HI.out j hlt
        subst hav
        have hTr := HT4.out.1.trans HR.out.base
        have c0 := (hTr.cell (cell_lt y0) (fun x => x)).trans y0
        have c1 := (hTr.cell (cell_lt y1) (fun x => x)).trans y1
        have c2 := (hTr.cell (cell_lt y2) (fun x => x)).trans y2
        have c3 := (hTr.cell (cell_lt y3) (fun x => x)).trans y3
        have HD := Lib.hid (HR.out.does k a x y)
        clear y0 y1 y2 y3 hTr
        go_wp2_with (go_at_call 16; fail)
        refine HD.out.mono ?_
        rintro e w7 ⟨rfl, h7⟩
        have H7 := Lib.hid h7
        clear h7 HD c0 c1 c2 c3
        go_wp2
        go_roundw
        case rel => exact ⟨j + 1, by omega, by go_num, H7.out⟩
        case measure => simp [intOf]; omega
      · obtain rfl : j = N := by omega
        have hb : ¬ (j : Int) < (j : Int) := by omega
        obtain ⟨S, H, O, h, hx⟩ := HR.out
        have H0 := Lib.hid (And.intro h hx)
        have hat := blk_touch HT4.out.2.2 h.base (fun x => x)
        have z0 : wr.cell? ⟨b0 + 1, 0, none⟩ = some (.int .i64 q_0) := by simp [World.cell?, hat]
        have z1 : wr.cell? ⟨b0 + 1, 1, none⟩ = some (.int .i64 q_1) := by simp [World.cell?, hat]
        have z2 : wr.cell? ⟨b0 + 1, 2, none⟩ = some (.int .i64 q_2) := by simp [World.cell?, hat]
        obtain ⟨F, hF⟩ : ∃ F, S.fldV c q_0 = F := ⟨_, rfl⟩
        obtain ⟨E, hE⟩ : ∃ E, S.objE c q_0 = E := ⟨_, rfl⟩
        obtain ⟨V, hV⟩ : ∃ V, S.ldV c q_0 q_1 = V := ⟨_, rfl⟩
        obtain ⟨G, hG⟩ : ∃ G, S.ldE c q_0 q_1 = G := ⟨_, rfl⟩
        have k1 := fun (w : World) (h : HpI w4 w A c S H) => hp_Fields q_0 h
        have k2 := fun (w : World) (h : Rv w O m qx c A.L.n S H) => rv_Fields q_0 h
        have k3 := fun (w : World) (h : HpI w4 w A c S H) => hp_Load q_0 q_1 h
        have k4 := fun (w : World) (h : Rv w O m qx c A.L.n S H) => rv_Load q_0 q_1 h
        rw [hF, hE] at k1 k2
        rw [hV, hG] at k3 k4
        have HK := Lib.hid (And.intro k1 (And.intro k2 (And.intro k3 k4)))
        clear h hx hat hF hE hV hG k1 k2 k3 k4 hj hlt HR
        go_wp2_with fail
        go_region
        obtain ⟨W7, hW7⟩ : ∃ W7, W7 = wr.drew := ⟨_, rfl⟩
        rw [← hW7]
        have H7 : Hid (Two w4 W7 A c S H O m qx) := H0.out.1.old (by rw [hW7]; exact Touch.drew (Touch.refl _ _))
        clear z0 z1 z2 hW7
        go_wp2_with (go_at_call 17; fail)
        refine (HK.out.1 _ H7.out.hp).mono ?_
        rintro e w8 ⟨rfl, t8, p8⟩
        have H8 : Hid (Two w4 w8 A c S H O m qx) := H7.out.look t8 p8
        clear t8 p8
        go_wp2_with (go_at_call 18; fail)
        refine (HK.out.2.1 _ H8.out.rv).mono ?_
        rintro e w9 ⟨rfl, rfl⟩
        go_wp2_with (go_at_call 19; fail)
        refine (HK.out.2.2.1 _ H8.out.hp).mono ?_
        rintro e w9 ⟨rfl, t9, p9⟩
        have H9 : Hid (Two w4 w9 A c S H O m qx) := H8.out.look t9 p9
        clear t9 p9
        go_wp2_with (go_at_call 20; fail)
        refine (HK.out.2.2.2 _ H9.out.rv).mono ?_
        rintro e w10 ⟨rfl, rfl⟩
        obtain ⟨KV, KE, KC, KI, hcs, kco, krc, kis⟩ : ∃ KV KE KC KI, ((KV = 0 ∧ KE = 0 ∧ KC = 0 ∧ KI = true) ∨ (KV = 1 ∧ KE = 0 ∧ KC = 1 ∧ KI = true) ∨ (KV = 0 ∧ KE = 1 ∧ KC = -1 ∧ KI = false)) ∧
            (∀ w, Two w4 w A c S H O m qx → Calls Tryz.prog 21 #[.pointer (some ⟨A.h, 0, none⟩), .int .i64 q_0] w fun e w' => e = .returned (.tuple #[.int .i64 KV, .int .i64 KE]) ∧ w = w') ∧
            (∀ w, Two w4 w A c S H O m qx → Calls Tryz.prog 22 #[.pointer (some ⟨m, 0, none⟩), .int .i64 q_0] w fun x w' => x = .returned (.int .i64 KC) ∧ Touch nob w w') ∧
            (∀ w, Two w4 w A c S H O m qx → Calls Tryz.prog 23 #[.pointer (some ⟨A.h, 0, none⟩), .int .i64 q_0] w fun e w' => e = .returned (.bool KI) ∧ w = w') := by
          refine ⟨S.colV q_0, S.colE q_0, if S.obj q_0 = true then S.colV q_0 else -1, S.obj q_0, ?_, fun w h => heap_Color q_0 h.hp.at', fun w h => rv_Color q_0 h.rv, fun w h => heap_Is q_0 h.hp.at'⟩
          unfold HS.colV HS.colE
          cases S.obj q_0 <;> cases S.colB q_0 <;> simp
        have HKc := Lib.hid (And.intro kco (And.intro krc kis))
        clear kco krc kis H7 H8
        have H9' := H9
        rcases hcs with ⟨rfl, rfl, rfl, rfl⟩ | ⟨rfl, rfl, rfl, rfl⟩ | ⟨rfl, rfl, rfl, rfl⟩
        all_goals
          go_wp2_with (go_at_call 21; fail)
          refine (HKc.out.1 _ H9.out).mono ?_
          rintro e w11 ⟨rfl, rfl⟩
          go_wp2_with (go_at_call 22; fail)
          refine (HKc.out.2.1 _ H9.out).mono ?_
          rintro e w12 ⟨rfl, t12⟩
          have H12 : Hid (Two w4 w12 A c S H O m qx) := H9.out.old t12
          clear t12
          go_wp2_with (go_at_call 23; fail)
          refine (HKc.out.2.2 _ H12.out).mono ?_
          rintro e w13 ⟨rfl, rfl⟩
          have hce := heap_Cell q_2 H12.out.hp.at'
          obtain ⟨cx, d13, hcx, -, -, hqx⟩ := H12.out.rv.heads13
          obtain ⟨NX, hNX⟩ : ∃ NX, S.x.length = NX := ⟨_, rfl⟩
          have hx64 : NX ≤ 64 := by have := H0.out.2; omega
          rw [hNX] at d13 hcx hqx
          by_cases hb : S.celB q_2
          · rw [show S.celV q_2 = S.x.getD q_2.toNat 0 by unfold HS.celV; rw [if_pos hb], show S.celE q_2 = 0 by unfold HS.celE; rw [if_pos hb]] at hce
            unfold HS.celB at hb
            obtain ⟨i, rfl⟩ := Int.eq_ofNat_of_zero_le hb.1
            have hiN : i < NX := by have := hb.2; omega
            rw [Int.toNat_natCast] at hce
            have e0 := (hqx i hiN).1
            obtain ⟨v, hv⟩ : ∃ v, S.x.getD i 0 = v := ⟨_, rfl⟩
            rw [hv] at hce e0
            have hiZ : (i : Int) < (NX : Int) := by omega
            have HCe := Lib.hid hce
            have HE := Lib.hid (HT4.out.1.trans H12.out.base)
            clear hqx hb hNX hv hce
            go_wp2_with (go_at_call 24; fail)
            refine HCe.out.mono ?_
            rintro e w14 ⟨rfl, rfl⟩
            go_wp2
            go_ret
            exact ⟨rfl, HE.out.below⟩
          · rw [show S.celV q_2 = 0 by unfold HS.celV; rw [if_neg hb], show S.celE q_2 = 9 by unfold HS.celE; rw [if_neg hb]] at hce
            unfold HS.celB at hb
            rw [hNX] at hb
            have HCe := Lib.hid hce
            have HE := Lib.hid (HT4.out.1.trans H12.out.base)
            clear hqx hNX hce
            have hcs2 : q_2 < 0 ∨ (¬ q_2 < 0 ∧ q_2 ≥ (NX : Int)) := by omega
            rcases hcs2 with g1 | ⟨g1, g2⟩
            all_goals
              go_wp2_with (go_at_call 24; fail)
              refine HCe.out.mono ?_
              rintro e w14 ⟨rfl, rfl⟩
              go_wp2_with fail
              try go_quiet (fail)
              go_wp2
              go_ret
              exact ⟨rfl, HE.out.below⟩
  · have hlg : (N : Int) > 60 := by omega
    go_wp2_with (go_at_call 13; fail)
    simp only [set7] at hW3
    rw [← hW3]
    clear hW3 y0 y1 y2 y3 y4 y5 y6 g0 g1 g2 g3 g4 g5 g6
    refine (law11_awake W3 (HL.out.old H3.out.1)).mono ?_
    rintro e w4 ⟨rfl, hT4⟩
    have HE := Lib.hid ((H3.out.1.trans hT4).below)
    clear hT4
    go_wp2
    go_ret
    exact ⟨rfl, HE.out⟩
end Go.Proofs.YtflhjbmoncbomaaGreatDoor
