/- HeapMakes, walked: the law. Conditions: the tables of limits, of sizes and of de Bruijn's bits read as laid. -/
import Derived.Test.YtflhjbmoncbomaaDoorLaws11d
namespace Go.Proofs.YtflhjbmoncbomaaDoor
open Go.RowKit

variable {W w w' : World} {A : HA} {c : Cf} {S S' : HS} {H : Nat → List Nat} {B : Nat} {wr : World} {va vf : Value} {xs fs zs : List Int}
/-- While a made object's fields are laid. -/
structure MkF (c : Cf) (S : HS) (j p k : Nat) : Prop where
  B : S.B (j + 1) = true
  cls : clsA c S.s.ks (j + 1) = clsOf p
  fl : S.flds ((j + 1 : Nat) : Int) = p
  fz : ∀ i : Nat, k ≤ i → i < p → S.fw (j + 1) i = 0
theorem MkF.made {j k : Nat} {p : Nat} {col : Int} (h : Mk c S S' j k p col) (hk : (k : Int) = clsOf p) (ho : objOk k p = true) (hi : HInv c S' H) : MkF c S' j p 0 := by
  have hB : S'.B (j + 1) = true := by rw [h.B]; simp
  have hj := hi.one h.own
  refine ⟨hB, h.cls.trans hk, ?_, fun i _ hip => h.fz i (by omega)⟩
  unfold HS.flds HS.word
  rw [if_pos ⟨by omega, by omega⟩, show (((j + 1 : Nat) : Int) - 1).toNat = j by omega, h.hd]
  obtain ⟨_, _, o3, _, _, o6, _⟩ := obj_facts ho
  unfold fldW
  rw [o3]
  exact o6
theorem MkF.step {j p k : Nat} (h : MkF c S j p k) (hi : HInv c S H) (hk : k < p) (v : Int) : MkF c (S.setw (j + 1 + k) v) j p (k + 1) ∧ Kq c S (S.setw (j + 1 + k) v) := by
  obtain ⟨q1, _, _, q4⟩ := hi.stored (e := j + 1) (k := k) h.B (by rw [h.fl]; omega) v
  refine ⟨⟨h.B, h.cls, (q1.fl hi h.B).trans h.fl, fun i hki hip => ?_⟩, q1⟩
  rw [q4 (j + 1) i h.B (by rw [h.fl]; omega) (fun x => by omega)]
  exact h.fz i (by omega) hip
set_option maxRecDepth 10000 in
set_option maxHeartbeats 8000000 in
theorem law_HeapMakes {w : World} (a0 : Int) (_ : (Lit.int .i64 a0).wf = true) (a1 : Int) (_ : (Lit.int .i64 a1).wf = true) (a2 : Int) (_ : (Lit.int .i64 a2).wf = true) (a3 : Int) (_ : (Lit.int .i64 a3).wf = true) (a4 : Int) (_ : (Lit.int .i64 a4).wf = true) (a5 : Int) (_ : (Lit.int .i64 a5).wf = true) (a6 : Int) (_ : (Lit.int .i64 a6).wf = true) (sz : Value) (rows : List (List Value)) (hl : IsSlice w sz [some .u8] rows) (gone : Int) (hgone : (Lit.int .u8 gone).wf = true) (hTab : Tab w) (hLim : Limits w) (hS : Sizes w) :
    Calls Tryd.prog 5 #[CfgV a0 a1 a2 a3 a4 a5 a6, sz, .int .u8 gone] w fun e w' => e = .returned (.bool true) ∧ Below w.heap.size w w' := by
  obtain ⟨us, hU, hub⟩ := u8s_of_slice hl
  obtain ⟨N, hN⟩ : ∃ N, us.length = N := ⟨_, rfl⟩
  obtain ⟨ao, cap, rfl⟩ := hU.shape
  rw [hN] at hU hub ⊢
  have hgb := bounds_u8 hgone
  have HU := Lib.hid (And.intro hU (And.intro hub (And.intro hN hgb)))
  have HL := Lib.hid (Laid.mk hLim hS)
  have HTab := Lib.hid hTab
  clear hLim hS hTab hl hU hub hN hgb hgone
  obtain ⟨c, hc⟩ : ∃ c, little ⟨a0, a1, a2, a3, a4, a5, a6⟩ = c := ⟨_, rfl⟩
  have hok : c.ok = true := by rw [← hc]; exact little_ok _
  have hc4 : 0 ≤ c.c4 ∧ c.c4 ≤ 3 := by rw [← hc]; simp only [little]; omega
  have hc01 : (0 ≤ c.c0 ∧ c.c0 ≤ 4) ∧ 0 ≤ c.c1 ∧ c.c1 ≤ 36 := by rw [← hc]; simp only [little]; omega
  have hlit := ref02_Little ⟨a0, a1, a2, a3, a4, a5, a6⟩
  rw [hc] at hlit
  have HC := Lib.hid (And.intro hok (And.intro hlit (And.intro hc4 hc01)))
  clear hok hlit hc hc4 hc01
  go_enter Tryd.func5, Tryd.ntmps5
  go_wp2_with fail
  obtain ⟨W, hW⟩ : ∃ W, W = w.alloc (Obj.cells (CfgRow a0 a1 a2 a3 a4 a5 a6) 23) := ⟨_, rfl⟩
  have hT : Touch nob w W := by rw [hW]; (repeat (first | with_reducible exact Touch.refl _ _ | with_reducible assumption | with_reducible apply Touch.alloc | with_reducible apply Touch.drewN | with_reducible apply Touch.drew | with_reducible refine Touch.setCell ?_ (.inr (by first | omega | (simp; done) | (simp; omega))) _))
  have hbx : W.heap[w.heap.size]? = some (Obj.cells (CfgRow a0 a1 a2 a3 a4 a5 a6) 23) := by rw [hW]; exact World.alloc_heap_new w _
  obtain ⟨b0, hb0⟩ : ∃ b, b = w.heap.size := ⟨_, rfl⟩
  rw [← hW, ← hb0]
  rw [← hb0] at hbx
  refine (HC.out.2.1 W).mono ?_
  rintro e w1 ⟨rfl, hT1⟩
  have hb1 := blk_touch hbx hT1 (fun x => x)
  obtain ⟨y0, y1, y2, y3, y4, y5, y6⟩ := cfg_box hb1 (Touch.refl _ _)
  have f0 : ∀ j, w1.frozen? ⟨b0, j, none⟩ = false := fun j => by simp [World.frozen?, hb1]
  have g0 := f0 0; have g1 := f0 1; have g2 := f0 2; have g3 := f0 3; have g4 := f0 4; have g5 := f0 5; have g6 := f0 6
  obtain ⟨W3, hW3⟩ : ∃ W3, W3 = set7 w1 b0 (.int .i64 c.c0) (.int .i64 c.c1) (.int .i64 c.c2) (.int .i64 c.c3) (.int .i64 c.c4) (.int .i64 c.c5) (.int .i64 c.c6) := ⟨_, rfl⟩
  have hc3 : W3.heap[b0]? = some (Obj.cells (CfgRow c.c0 c.c1 c.c2 c.c3 c.c4 c.c5 c.c6) 23) := by rw [hW3]; exact set7_at _ _ _ _ _ _ _ _ hb1
  have hT3 : Touch nob w W3 := by rw [hW3]; exact set7_touch _ _ _ _ _ _ _ (by omega) (hT.trans hT1)
  have HO1 : Hid (∀ k o, k ≠ b0 → W.heap[k]? = some o → W3.heap[k]? = some o) := fun k o hk h => by rw [hW3]; exact (set7_other _ _ _ _ _ _ _ _ hk).trans (blk_touch h hT1 (fun x => x))
  have H3 := Lib.hid (And.intro hT3 hc3)
  clear hT hbx hT1 hb1 f0 hc3 hT3 hW hb0
  by_cases h60 : N ≤ 60
  · skip
    go_wp2_with (go_at_call 7; fail)
    simp only [set7] at hW3
    rw [← hW3]
    clear hW3 y0 y1 y2 y3 y4 y5 y6 g0 g1 g2 g3 g4 g5 g6
    refine (law11_awake W3 (HL.out.old H3.out.1)).mono ?_
    rintro e w4 ⟨rfl, hT4⟩
    obtain ⟨y0, y1, y2, y3, y4, y5, y6⟩ := cfg_box H3.out.2 hT4
    have HT4 := Lib.hid (And.intro (H3.out.1.trans hT4) (blk_touch H3.out.2 hT4 (fun x => x)))
    clear hT4
    go_wp2_with (go_at_call 8; fail)
    refine (heap_New_ok c w4 (HL.out.old HT4.out.1) HC.out.1).mono ?_
    rintro e w5 ⟨A, z, n, rfl, hz, hbn, hn, h5⟩
    have hz1 : z ≤ 144 := by
      have hc01 := HC.out.2.2.2
      have := (mul_bd (a := c.c0) (b := c.c1) (A := 4) (B := 36) hc01.1.1 hc01.1.2 hc01.2.1 hc01.2.2).2
      omega
    obtain ⟨B, hB⟩ : ∃ B, B = w5.heap.size := ⟨_, rfl⟩
    have H5 : Hid (∃ xs fs S H, xs.length ≤ 0 ∧ MtI w4 A c B w5 (.slice none 0 0) (.slice none 0 0) xs fs S H ∧ MtP c S xs fs z) := by
      rw [hB]
      exact ⟨[], [], _, _, Nat.le_refl _, ⟨h5, h5.at'.lt, h5.at'.base.size, Nat.le_refl _, World.ownsRow_nil _ _ _ _, World.ownsRow_nil _ _ _ _, fun k hk => by cases hk⟩, ⟨List.length_replicate, rfl, fun i hi => absurd hi (Nat.not_lt_zero _)⟩⟩
    have HN5 := Lib.hid (show (A.L.n : Int) = c.c0 from hbn)
    clear y0 y1 y2 y3 y4 y5 y6 h5 hz hbn hn hB
    go_wp2_with fail
    go_loopw [11, 9, 10] (fun i va vf wr => ∃ j : Nat, j ≤ N ∧ i = .int .i64 j ∧ Hid (∃ xs fs S H, xs.length ≤ j ∧ MtI w4 A c B wr va vf xs fs S H ∧ MtP c S xs fs z)) (fun i _ _ _ => N - (intOf i).toNat)
    case atStart => exact ⟨0, Nat.zero_le _, rfl, H5⟩
    case round =>
      obtain ⟨j, hj, rfl, HR⟩ := hrel
      clear H5
      obtain ⟨xs, fs, S, H, hxl, hr, hp⟩ := HR.out
      have HP := Lib.hid (And.intro hr (And.intro hp hxl))
      clear HR hp
      by_cases hlt : j < N
      · have hb : (j : Int) < (N : Int) := by omega
        obtain ⟨bl, ob, cp, hv, hcp, hcell⟩ := (HU.out.1.old (HT4.out.1.trans hr.hp.at'.base)).at (k := j) (by rw [HU.out.2.2.1]; exact hlt)
        rw [HU.out.2.2.1] at hv hcp
        injection hv with hv1 hv2 hv3
        subst hv1 hv3
        have hu := HU.out.2.1 j hlt
        obtain ⟨x, hxx⟩ : ∃ x, us.getD j 0 = x := ⟨_, rfl⟩
        rw [hxx] at hcell hu
        obtain ⟨y, hy⟩ : ∃ y : Nat, x % 16 = y := ⟨(x % 16).toNat, by omega⟩
        have hy1 : x.tmod 16 = y := by rw [Int.tmod_eq_emod_of_nonneg hu.1]; exact hy
        have hyb : y < 16 := by omega
        obtain ⟨hx0, hx1⟩ := hu
        obtain ⟨col, hcol⟩ : ∃ col, (j : Int) % 2 = col := ⟨_, rfl⟩
        have hcolb : col = 0 ∨ col = 1 := by omega
        have hcolt : (j : Int).tmod 2 = col := by rw [Int.tmod_eq_emod_of_nonneg (by omega)]; exact hcol
        have hmk := hp_Make y col HP.out.1.hp
        rcases makE_cases (S := S) (H := H) (n := A.L.n) (f := y) ⟨by omega, by omega⟩ hcolb with hE | hE
        · obtain ⟨jj, kk, hV, hk4, hkc, hok, hM⟩ := mak_facts HP.out.1.hp.inv HN5.out hE
          rw [hE, hV] at hmk
          have HMK := Lib.hid (And.intro hmk (And.intro hkc (And.intro hok hM)))
          clear hr hv2 hcp hxx hy hmk hE hV hkc hok hM hk4
          go_wp2_with (go_at_call 10; fail)
          refine HMK.out.1.mono ?_
          rintro e w6 ⟨rfl, hT6, h6⟩
          have H6 : Hid (MtI w4 A c B w6 u9 u10 xs fs _ _ ∧ MtP c _ xs fs z ∧ MkF c _ jj y 0) := ⟨HP.out.1.heap hT6 h6, HP.out.2.1.ev HMK.out.2.2.2.ev HP.out.1.hp.inv, MkF.made HMK.out.2.2.2 HMK.out.2.1 HMK.out.2.2.1 h6.inv⟩
          have hnin : ¬ ((jj : Int) + 1 ∈ xs) := fun hm => by
            obtain ⟨i, hi, e⟩ := List.getElem_of_mem hm
            obtain ⟨j', e1, e2, _⟩ := HP.out.2.1.ob i hi
            rw [List.getD_eq_getElem?_getD, List.getElem?_eq_getElem hi] at e1
            have e1 : xs[i] = (j' : Int) + 1 := e1
            have : j' = jj := by omega
            subst this
            rw [HMK.out.2.2.2.new] at e2
            cases e2
          have HIn := Lib.hid (And.intro hnin (show xs.length ≤ 60 by have := HP.out.2.2; omega))
          clear hT6 h6 hnin hcell
          go_wp2_with (go_at_call 17; fail)
          refine (ref01_In _ xs ((jj : Int) + 1) H6.out.1.oa.ints (by have := HIn.out.2; omega)).mono ?_
          rintro e w7 ⟨rfl, hT7⟩
          rw [decide_eq_false HIn.out.1]
          have H7 : Hid (∃ T, MtI w4 A c B w7 u9 u10 xs fs T (makH S H c A.L.n y col) ∧ MtP c T xs fs z ∧ MkF c T jj y 0) := ⟨_, H6.out.1.old hT7, H6.out.2.1, H6.out.2.2⟩
          obtain ⟨H', hH'⟩ : ∃ H', makH S H c A.L.n y col = H' := ⟨_, rfl⟩
          rw [hH'] at H7
          clear hT7 H6 hH' HMK
          go_wp2_with fail
          go_loopw [15] (fun i wr => ∃ k : Nat, k ≤ y ∧ i = .int .i64 k ∧ Hid (∃ T, MtI w4 A c B wr u9 u10 xs fs T H' ∧ MtP c T xs fs z ∧ MkF c T jj y k)) (fun i _ => y - (intOf i).toNat)
          case atStart => exact ⟨0, Nat.zero_le _, rfl, H7⟩
          case round =>
            obtain ⟨k, hk, rfl, HR⟩ := hrel
            clear H7
            obtain ⟨T, t1, t2, t3⟩ := HR.out
            have HT' := Lib.hid (And.intro t1 (And.intro t2 t3))
            clear HR t1 t2 t3
            by_cases hky : k < y
            · have hkb : (k : Int) < (y : Int) := by omega
              have hf0 := HT'.out.2.2.fz k (Nat.le_refl _) hky
              have hld := hpo_Load (e := jj + 1) (k := k) HT'.out.1.hp HT'.out.2.2.B (by rw [HT'.out.2.2.fl]; exact hkb) (by rw [hf0]; omega)
              rw [hf0, show ((jj + 1 : Nat) : Int) = (jj : Int) + 1 by omega] at hld
              obtain ⟨q1, q2⟩ := HT'.out.2.2.step HT'.out.1.hp.inv hky ((jj : Int) + 1)
              have hjz : (jj : Int) + 1 ≤ T.s.ws.length := by
                obtain ⟨j', e1, e2, _⟩ := HT'.out.1.hp.inv.ob _ HT'.out.2.2.B
                omega
              have hst := fun w1 (h : HpI w4 w1 A c T H') => hpo_Store (e := jj + 1) (k := k) ((jj : Int) + 1) h HT'.out.2.2.B (by rw [HT'.out.2.2.fl]; exact hkb) ⟨by omega, hjz⟩
              rw [show ((jj + 1 : Nat) : Int) = (jj : Int) + 1 by omega] at hst
              have HLd := Lib.hid (And.intro hld (And.intro hst (And.intro q1 q2)))
              clear hf0 hld q1 q2 hjz hst
              go_wp2_with (go_at_call 15; fail)
              refine HLd.out.1.mono ?_
              rintro e w8 ⟨rfl, hT8, h8⟩
              have H8 := Lib.hid (HT'.out.1.heap hT8 h8)
              clear hT8 h8
              go_wp2_with (go_at_call 14; fail)
              refine (HLd.out.2.1 w8 H8.out.hp).mono ?_
              rintro e w9 ⟨rfl, hT9, h9⟩
              have H9 : Hid (∃ T, MtI w4 A c B w9 u9 u10 xs fs T H' ∧ MtP c T xs fs z ∧ MkF c T jj y (k + 1)) := ⟨_, H8.out.heap hT9 h9, HT'.out.2.1.kq HLd.out.2.2.2, HLd.out.2.2.1⟩
              clear hT9 h9
              go_wp2
              go_roundw
              case rel => exact ⟨k + 1, by omega, by go_num, H9⟩
              case measure => simp [intOf]; omega
            · have hkb : ¬ (k : Int) < (y : Int) := by omega
              have hxs := HIn.out.2
              have hfl : fs.length ≤ 60 := by rw [HT'.out.2.1.len]; exact hxs
              have HFl := Lib.hid (And.intro hxs hfl)
              clear hxs hfl hk hky
              go_wp2_with (at_builtin; first
                | (refine wpList_append_sx rfl _ _ rfl B _ _ fs [(y : Int)] rfl (H10.out.of'.touch (Touch.alloc (Touch.refl nob _) _) (fun _ _ x => x)) rfl (sx_one _ _) (by have := HFl.out.2; simp; omega) (by have := H10.out.bs; rw [World.size_alloc]; omega) ?_; intro v11 w11 hown hgrow hat; have H11 := Lib.hid (MtI.app_f (zs := [(y : Int)]) (H10.out.old (Touch.alloc (Touch.refl nob _) _)) hown hgrow hat); clear hown hgrow hat)
                | (refine wpList_append_sx rfl _ _ rfl B _ _ xs [(jj : Int) + 1] rfl (HT'.out.1.oa.touch (Touch.alloc (Touch.refl nob _) _) (fun _ _ x => x)) rfl (sx_one _ _) (by have := HFl.out.1; simp; omega) (by have := HT'.out.1.bs; rw [World.size_alloc]; omega) ?_; intro v10 w10 hown hgrow hat; have H10 := Lib.hid (MtI.app_a (zs := [(jj : Int) + 1]) (HT'.out.1.old (Touch.alloc (Touch.refl nob _) _)) hown hgrow hat); clear hown hgrow hat))
              go_roundw
              case rel => exact ⟨j + 1, by omega, by go_num, _, _, _, _, by have := HP.out.2.2; rw [List.length_append]; simp; omega, H11.out, HT'.out.2.1.snoc HT'.out.2.2.B HT'.out.2.2.cls ⟨by omega, by omega⟩⟩
              case measure => simp [intOf]; omega
        · have hV : makV S H c A.L.n y col = 0 := by unfold makV; rw [hE, if_neg (by decide)]
          have hSS : makS S H c A.L.n y col = S := by unfold makS; rw [hE, if_neg (by decide)]
          rw [hE, hV, hSS] at hmk
          have HMK := Lib.hid hmk
          clear hr hv2 hcp hxx hy hmk hE hV hSS
          go_wp2_with (go_at_call 10; fail)
          refine HMK.out.mono ?_
          rintro e w6 ⟨rfl, hT6, h6⟩
          have H6 : Hid (∃ xs fs S H, xs.length ≤ j + 1 ∧ MtI w4 A c B w6 u9 u10 xs fs S H ∧ MtP c S xs fs z) := ⟨xs, fs, _, _, by have := HP.out.2.2; omega, HP.out.1.heap hT6 h6, HP.out.2.1⟩
          clear hT6 h6 hcell
          go_wp2
          go_roundw
          case rel => exact ⟨j + 1, by omega, by go_num, H6⟩
          case measure => simp [intOf]; omega
      · have hb : ¬ (j : Int) < (N : Int) := by omega
        have ho1 := HP.out.1.oa
        have ho2 := HP.out.1.of'
        obtain ⟨aa, ca, ea⟩ := own_shape ho1
        obtain ⟨af, cf, ef⟩ := own_shape ho2
        obtain ⟨m, hm⟩ : ∃ m, xs.length = m := ⟨_, rfl⟩
        have hfm : fs.length = m := by rw [HP.out.2.1.len]; exact hm
        rw [hm] at ea
        rw [hfm] at ef
        subst ea ef
        have HM := Lib.hid (And.intro hm hfm)
        have hm60 : m ≤ 60 := by have := HP.out.2.2; omega
        clear ho1 ho2 hm hfm hr hxl hj hlt
        by_cases hm0 : m = 0
        · subst hm0
          have HE := Lib.hid ((HT4.out.1.trans HP.out.1.hp.at'.base).below)
          go_wp2
          go_ret
          exact ⟨rfl, HE.out⟩
        · have hm1 : ¬ (m : Int) = 0 := by omega
          obtain ⟨r, hr⟩ : ∃ r : Nat, gone % m = r := ⟨(gone % m).toNat, by have := Int.emod_nonneg gone hm1; omega⟩
          have hrm : r < m := by have := Int.emod_lt_of_pos gone (show (0 : Int) < m by omega); omega
          have hgb := HU.out.2.2.2
          have hrt : gone.tmod m = r := by rw [Int.tmod_eq_emod_of_nonneg hgb.1]; exact hr
          have hrb : (r : Int) < (m : Int) := by omega
          have hmm : ¬ (m : Int) = -1 := by omega
          obtain ⟨ga, hga, hca, cella⟩ := own_at HP.out.1.oa rfl HM.out.1 hrm
          obtain ⟨gf, hgf, hcf, cellf⟩ := own_at HP.out.1.of' rfl HM.out.2 hrm
          subst hga hgf
          obtain ⟨jj, e1, e2, e3, e4⟩ := HP.out.2.1.ob r (by rw [HM.out.1]; exact hrm)
          obtain ⟨f, hf⟩ : ∃ f, fs.getD r 0 = f := ⟨_, rfl⟩
          rw [hf] at e3 e4 cellf
          rw [e1] at cella
          obtain ⟨m1, m2, m3⟩ := free_make (n := A.L.n) HP.out.1.hp e2 e3 e4
          have hfr := hp_Free ((jj : Int) + 1) HP.out.1.hp
          rw [m1] at hfr
          have hmk := fun w1 (h : HpI w4 w1 A c (S.freS c (jj + 1)) (freH S c H (jj + 1))) => hp_Make f 0 h
          rw [m2, m3] at hmk
          have hBa : B ≤ ga := HP.out.1.oa.new ga rfl
          have hBf : B ≤ gf := HP.out.1.of'.new gf rfl
          have hbl : ∀ k, k = ga ∨ k = gf → ¬ HT A k := fun k hk hm => by
            have h1 := HP.out.1.lo k hm
            omega
          have HX := Lib.hid (And.intro hfr (And.intro hmk hbl))
          have hlen : (S.freS c ((jj : Int) + 1)).s.ws.length = S.s.ws.length := by
            unfold HS.freS
            split
            · unfold HS.putS
              split
              · exact List.length_set
              · rfl
            · rfl
          have hml : (makS (S.freS c (jj + 1)) (freH S c H (jj + 1)) c A.L.n f 0).s.ws.length ≤ 4096 ∨ True := .inr trivial
          have HLn := Lib.hid (And.intro hlen HP.out.2.1.z)
          have HKe := Lib.hid (fun w1 (ht : Touch (HT A) wr w1) => show w1.cell? ⟨ga, r, none⟩ = some (.int .i64 ((jj : Int) + 1)) ∧ w1.cell? ⟨gf, r, none⟩ = some (.int .i64 f) from
            ⟨(ht.cell (cell_lt cella) (hbl _ (.inl rfl))).trans cella, (ht.cell (cell_lt cellf) (hbl _ (.inr rfl))).trans cellf⟩)
          obtain ⟨hg0, hg1⟩ := hgb
          clear e1 e2 e3 e4 hf m1 m2 m3 hfr hmk hbl hlen hml hr hBa hBf
          go_wp2_with (go_at_call 18; fail)
          refine HX.out.1.mono ?_
          rintro e w6 ⟨rfl, hT6, h6⟩
          have H6 := Lib.hid (And.intro hT6 h6)
          obtain ⟨cella', cellf'⟩ := HKe.out _ hT6
          clear hT6 h6 cella cellf
          go_wp2_with (go_at_call 10; fail)
          refine (HX.out.2.1 w6 H6.out.2).mono ?_
          rintro e w7 ⟨rfl, hT7, h7⟩
          have H7 := Lib.hid (And.intro (H6.out.1.trans hT7) h7)
          obtain ⟨cella2, cellf2⟩ := HKe.out _ (H6.out.1.trans hT7)
          clear hT7 h7 cella' cellf'
          go_wp2_with (go_at_call 19; fail)
          refine (law11_Parted H7.out.2 (HTab.out.touch HT4.out.1 (fun x => x)) (by
            have h1 := (mak_ev (f := f) (col := 0) H6.out.2.inv HN5.out).len
            have := HLn.out
            omega)).mono ?_
          rintro e w8 ⟨rfl, hT8, h8⟩
          have H8 := Lib.hid ((HT4.out.1.trans h8.at'.base).below)
          clear hT8 h8
          go_wp2
          go_ret
          exact ⟨rfl, H8.out⟩
  · have hlg : (N : Int) > 60 := by omega
    go_wp2_with (go_at_call 7; fail)
    simp only [set7] at hW3
    rw [← hW3]
    clear hW3 y0 y1 y2 y3 y4 y5 y6 g0 g1 g2 g3 g4 g5 g6
    refine (law11_awake W3 (HL.out.old H3.out.1)).mono ?_
    rintro e w4 ⟨rfl, hT4⟩
    have HE := Lib.hid ((H3.out.1.trans hT4).below)
    clear hT4
    go_wp2
    go_ret
    exact ⟨rfl, HE.out⟩
end Go.Proofs.YtflhjbmoncbomaaDoor
