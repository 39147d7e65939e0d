/- The log's law Plays, walked. Conditions: none. -/
import Derived.Test.YthdlgffpcfjbiaaLg
import Derived.Test.YthdlgffpcfjbiaaSlAdd
import Derived.BigRegion
namespace Go.Proofs.Ythdlgffpcfjbiaa
open Go.RowKit
attribute [local go_sem ↓ high] builtin_appd

set_option maxRecDepth 20000 in
set_option maxHeartbeats 8000000 in
theorem law_LogPlays {w : World} (s : Int) (hs : (Lit.int .u8 s).wf = true) (l : Value) (rows : List (List Value)) (hl : IsSlice w l [some .u8, some .i64] rows) :
    Calls Try.prog 12 #[.int .u8 s, l] w fun e w' => e = .returned (.bool true) ∧ Below w.heap.size w w' := by
  obtain ⟨s0, s1⟩ := bounds_u8 hs
  clear hs
  obtain ⟨n, hI, _⟩ := rows_of_slice hl (by simp)
  clear hl
  obtain ⟨ao, cap, rfl, hI⟩ := hI
  have HI := Lib.hid hI
  clear hI
  by_cases h200 : 200 < n
  · go_enter Try.func12, Try.ntmps12
    go_wp2_with (go_at_call 27; fail)
    refine (law10_awake _).mono ?_
    rintro e w4 ⟨rfl, hT4⟩
    go_wp2
    go_ret
    exact ⟨rfl, hT4.below⟩
  obtain ⟨m, hm⟩ : ∃ m : Nat, s.tmod 20 = m := ⟨(s.tmod 20).toNat, by have := Int.tmod_nonneg 20 s0; omega⟩
  have hm20 : m < 20 := by have := Int.tmod_lt_of_pos s (show (0 : Int) < 20 by omega); omega
  obtain ⟨K, hK⟩ : ∃ K, K = 1 + m := ⟨_, rfl⟩
  go_enter Try.func12, Try.ntmps12
  go_wp2_with (go_at_call 28; fail)
  clear hm
  refine (log_New_ok _ (by omega) (by omega) _).mono ?_
  rintro e w1 ⟨p, rfl, hp, hT1, hb1⟩
  go_wp2_with (go_at_call 29; fail)
  refine (log_NewBox _).mono ?_
  rintro e w2 ⟨q, rfl, hq, hT2, hx2⟩
  have h1 := lg_both hT1 hp hq hb1 hT2 hx2
  rw [show (1 : Int) + (m : Int) = (K : Int) by omega] at h1 ⊢
  have hK50 : K ≤ 20 ∧ 1 ≤ K := by omega
  obtain ⟨K0, K1⟩ := hK50
  clear hK hm20 hT1 hb1 hT2 hx2 hp hq
  go_wp2_with fail
  go_loopw [9, 10, 11] (fun hv bv i wr => ∃ k : Nat, ∃ bs xs, k ≤ n ∧ i = .int .i64 k ∧ bs.length ≤ K ∧ Lg w wr p q K (fun _ => False) bs xs ∧ SlAt wr hv bs ∧ SlAt wr bv xs) (fun _ _ i _ => n - (intOf i).toNat)
  case atStart => exact ⟨0, [], [], by omega, rfl, by simp, h1, SlAt.nil _, SlAt.nil _⟩
  case round =>
    obtain ⟨k, bs, xs, hk, rfl, hbl, hS, hV, hX⟩ := hrel
    clear h1
    by_cases hlt : k < n
    · obtain ⟨b, o, hao, hcap, hmx, hcells⟩ := HI.out.resolve_left (by omega)
      subst hao
      obtain ⟨r, hfit, hcx⟩ := hcells k hlt
      obtain ⟨kd, us1, rfl, _, hf1⟩ := fits_int hfit
      obtain ⟨x, us2, rfl, _, hf2⟩ := fits_int hf1
      obtain rfl := fits_nil hf2
      have y0 := hcx 0 (by simp)
      have y1 := hcx 1 (by simp)
      simp only [List.length_cons, List.length_nil, Nat.zero_add, Nat.reduceAdd, Nat.add_zero, List.getElem?_cons_zero, List.getElem?_cons_succ, ← Nat.add_assoc] at y0 y1
      have HC : Hid (∀ w', Touch nob w w' → w'.cell? ⟨b, o + k * 2, none⟩ = some (.int .u8 kd) ∧ w'.cell? ⟨b, o + k * 2 + 1, none⟩ = some (.int .i64 x)) := fun w' ht => ⟨(ht.cell (cell_lt y0) (fun x => x)).trans y0, (ht.cell (cell_lt y1) (fun x => x)).trans y1⟩
      obtain ⟨z0, z1⟩ := HC.out _ hS.touch
      have hb : (k : Int) < (n : Int) := by omega
      clear hcx hcells y0 y1 hfit hf1 hf2
      obtain ⟨L, hL⟩ : ∃ L, bs.length = L := ⟨_, rfl⟩
      obtain ⟨M, hM⟩ : ∃ M, xs.length = M := ⟨_, rfl⟩
      have HL := Lib.hid hL
      have HM := Lib.hid hM
      rw [hL] at hbl
      rcases (show kd = 0 ∨ kd = 3 ∨ kd = 1 ∨ kd = 2 ∨ (kd ≠ 0 ∧ kd ≠ 1 ∧ kd ≠ 2 ∧ kd ≠ 3) by omega) with rfl | rfl | rfl | rfl | ⟨hk0, hk1, hk2, hk3⟩
      · obtain ⟨ax, cx, rfl, _⟩ := hX.len
        rw [hM] at hX ⊢
        clear hM
        cases bs with
        | nil =>
          obtain rfl : L = 0 := by simpa using hL.symm
          obtain ⟨ao', cap', rfl, _⟩ := hV.len
          rw [List.length_nil] at hV ⊢
          clear hL
          go_wp2_with (go_at_call 40; fail)
          refine (lg_Next_no hS).mono ?_
          rintro e w' ⟨rfl, rfl⟩
          clear z0 z1
          go_wp2_with (go_at_call 34; fail)
          refine (lg_Len hS).mono ?_
          rintro e w' ⟨rfl, rfl⟩
          rw [HL.out]
          go_wp2_with (go_at_call 42; fail)
          refine (lg_BLen hS).mono ?_
          rintro e w' ⟨rfl, rfl⟩
          rw [HM.out]
          go_wp2_with (go_at_call 30; fail)
          refine (lg_Full hS).mono ?_
          rintro e w6 ⟨rfl, h6, hk6⟩
          rw [HL.out]
          have hv6 := (hV).keep hk6
          have bv6 := (hX).keep hk6
          go_wp2
          go_roundw
          case rel => exact ⟨k + 1, [], xs, by omega, by go_num, by rw [HL.out]; omega, h6, hv6, bv6⟩
          case measure => simp [intOf]; omega
        | cons x0 rs =>
          rcases id hV with ⟨_, h0⟩ | ⟨g, o', cap', cur, rfl, hc1, hc2, hc3⟩
          · cases h0
          have hcx := hV.cell (j := 0) (by simp)
          obtain ⟨j, hj⟩ : ∃ j, rs.length = j := ⟨_, rfl⟩
          rw [show (x0 :: rs).length = j + 1 by simp [hj]] at hV hc1 ⊢
          have HJ := Lib.hid hj
          have HV := Lib.hid hV
          obtain rfl : L = j + 1 := by rw [← hL]; simp [hj]
          clear hL hc2 hc3
          go_wp2_with (go_at_call 40; fail)
          refine (lg_Next_ok hS).mono ?_
          rintro e w2 ⟨rfl, h2, hk2⟩
          have hV2 := HV.out.keep hk2
          have hX2 := hX.keep hk2
          have hcy := hV2.cell (j := 0) (by simp)
          simp only [Nat.add_zero, List.getD_cons_zero] at hcx hcy
          have h2t := h2.touch
          clear z0 z1 hS hV hX hcx hk2 h2t
          by_cases hcap1 : cap' = 1
          · obtain rfl : j = 0 := by omega
            subst hcap1
            have hrs : rs = [] := List.eq_nil_of_length_eq_zero hj
            have hV3 := hV2.tail (g' := g) (o' := o') rfl (.inl hrs)
            clear hV2 hj
            go_wp2_with (go_at_call 34; fail)
            refine (lg_Len h2).mono ?_
            rintro e w' ⟨rfl, rfl⟩
            rw [HJ.out]
            go_wp2_with (go_at_call 42; fail)
            refine (lg_BLen h2).mono ?_
            rintro e w' ⟨rfl, rfl⟩
            rw [HM.out]
            go_wp2_with (go_at_call 30; fail)
            refine (lg_Full h2).mono ?_
            rintro e w6 ⟨rfl, h6, hk6⟩
            rw [HJ.out]
            have hv6 := (hV3).keep hk6
            have bv6 := (hX2).keep hk6
            clear h2 hV3 hX2 hcy
            go_wp2
            go_roundw
            case rel => exact ⟨k + 1, rs, xs, by omega, by go_num, by rw [HJ.out]; omega, h6, hv6, bv6⟩
            case measure => simp [intOf]; omega
          · have hV3 := hV2.tail (g' := g) (o' := o' + 1) rfl (.inr rfl)
            clear hV2 hj
            have hc2 : 1 < cap' := by omega
            go_wp2_with (go_at_call 34; fail)
            refine (lg_Len h2).mono ?_
            rintro e w' ⟨rfl, rfl⟩
            rw [HJ.out]
            go_wp2_with (go_at_call 42; fail)
            refine (lg_BLen h2).mono ?_
            rintro e w' ⟨rfl, rfl⟩
            rw [HM.out]
            go_wp2_with (go_at_call 30; fail)
            refine (lg_Full h2).mono ?_
            rintro e w6 ⟨rfl, h6, hk6⟩
            rw [HJ.out]
            have hv6 := (hV3).keep hk6
            have bv6 := (hX2).keep hk6
            clear h2 hV3 hX2 hcy
            go_wp2
            go_roundw
            case rel => exact ⟨k + 1, rs, xs, by omega, by go_num, by rw [HJ.out]; omega, h6, hv6, bv6⟩
            case measure => simp [intOf]; omega
      · obtain ⟨ax, cx, rfl, _⟩ := hV.len
        rw [hL] at hV ⊢
        clear hL
        cases xs with
        | nil =>
          obtain rfl : M = 0 := by simpa using hM.symm
          obtain ⟨ao', cap', rfl, _⟩ := hX.len
          rw [List.length_nil] at hX ⊢
          clear hM
          go_wp2_with (go_at_call 31; fail)
          refine (lg_BNext_no hS).mono ?_
          rintro e w' ⟨rfl, rfl⟩
          clear z0 z1
          go_wp2_with (go_at_call 34; fail)
          refine (lg_Len hS).mono ?_
          rintro e w' ⟨rfl, rfl⟩
          rw [HL.out]
          go_wp2_with (go_at_call 42; fail)
          refine (lg_BLen hS).mono ?_
          rintro e w' ⟨rfl, rfl⟩
          rw [HM.out]
          go_wp2_with (go_at_call 30; fail)
          refine (lg_Full hS).mono ?_
          rintro e w6 ⟨rfl, h6, hk6⟩
          rw [HL.out]
          have hv6 := (hV).keep hk6
          have bv6 := (hX).keep hk6
          go_wp2
          go_roundw
          case rel => exact ⟨k + 1, bs, [], by omega, by go_num, by rw [HL.out]; omega, h6, hv6, bv6⟩
          case measure => simp [intOf]; omega
        | cons x0 rs =>
          rcases id hX with ⟨_, h0⟩ | ⟨g, o', cap', cur, rfl, hc1, hc2, hc3⟩
          · cases h0
          have hcx := hX.cell (j := 0) (by simp)
          obtain ⟨j, hj⟩ : ∃ j, rs.length = j := ⟨_, rfl⟩
          rw [show (x0 :: rs).length = j + 1 by simp [hj]] at hX hc1 ⊢
          have HJ := Lib.hid hj
          have HV := Lib.hid hX
          obtain rfl : M = j + 1 := by rw [← hM]; simp [hj]
          clear hM hc2 hc3
          go_wp2_with (go_at_call 31; fail)
          refine (lg_BNext_ok hS).mono ?_
          rintro e w2 ⟨rfl, h2, hk2⟩
          have hV2 := HV.out.keep hk2
          have hX2 := hV.keep hk2
          have hcy := hV2.cell (j := 0) (by simp)
          simp only [Nat.add_zero, List.getD_cons_zero] at hcx hcy
          have h2t := h2.touch
          clear z0 z1 hS hX hV hcx hk2 h2t
          by_cases hcap1 : cap' = 1
          · obtain rfl : j = 0 := by omega
            subst hcap1
            have hrs : rs = [] := List.eq_nil_of_length_eq_zero hj
            have hV3 := hV2.tail (g' := g) (o' := o') rfl (.inl hrs)
            clear hV2 hj
            go_wp2_with (go_at_call 34; fail)
            refine (lg_Len h2).mono ?_
            rintro e w' ⟨rfl, rfl⟩
            rw [HL.out]
            go_wp2_with (go_at_call 42; fail)
            refine (lg_BLen h2).mono ?_
            rintro e w' ⟨rfl, rfl⟩
            rw [HJ.out]
            go_wp2_with (go_at_call 30; fail)
            refine (lg_Full h2).mono ?_
            rintro e w6 ⟨rfl, h6, hk6⟩
            rw [HL.out]
            have hv6 := (hX2).keep hk6
            have bv6 := (hV3).keep hk6
            clear h2 hV3 hX2 hcy
            go_wp2
            go_roundw
            case rel => exact ⟨k + 1, bs, rs, by omega, by go_num, by rw [HL.out]; omega, h6, hv6, bv6⟩
            case measure => simp [intOf]; omega
          · have hV3 := hV2.tail (g' := g) (o' := o' + 1) rfl (.inr rfl)
            clear hV2 hj
            have hc2 : 1 < cap' := by omega
            go_wp2_with (go_at_call 34; fail)
            refine (lg_Len h2).mono ?_
            rintro e w' ⟨rfl, rfl⟩
            rw [HL.out]
            go_wp2_with (go_at_call 42; fail)
            refine (lg_BLen h2).mono ?_
            rintro e w' ⟨rfl, rfl⟩
            rw [HJ.out]
            go_wp2_with (go_at_call 30; fail)
            refine (lg_Full h2).mono ?_
            rintro e w6 ⟨rfl, h6, hk6⟩
            rw [HL.out]
            have hv6 := (hX2).keep hk6
            have bv6 := (hV3).keep hk6
            clear h2 hV3 hX2 hcy
            go_wp2
            go_roundw
            case rel => exact ⟨k + 1, bs, rs, by omega, by go_num, by rw [HL.out]; omega, h6, hv6, bv6⟩
            case measure => simp [intOf]; omega
      · obtain ⟨ax, cx, rfl, _⟩ := hX.len
        obtain ⟨av, cv, rfl, _⟩ := hV.len
        rw [hM] at hX ⊢
        clear hM
        go_wp2_with (go_at_call 41; fail)
        refine (lg_Clear hS).mono ?_
        rintro e w2 ⟨rfl, h2, hk2⟩
        have hX2 := hX.keep hk2
        clear z0 z1 hS hX hV hk2 hL
        go_wp2_with (go_at_call 34; fail)
        refine (lg_Len h2).mono ?_
        rintro e w' ⟨rfl, rfl⟩
        rw [List.length_nil]
        go_wp2_with (go_at_call 42; fail)
        refine (lg_BLen h2).mono ?_
        rintro e w' ⟨rfl, rfl⟩
        rw [HM.out]
        go_wp2_with (go_at_call 30; fail)
        refine (lg_Full h2).mono ?_
        rintro e w6 ⟨rfl, h6, hk6⟩
        rw [List.length_nil]
        have hv6 := SlAt.nil w6
        have bv6 := (hX2).keep hk6
        clear h2 hX2
        go_wp2
        go_roundw
        case rel => exact ⟨k + 1, [], xs, by omega, by go_num, by simp, h6, hv6, bv6⟩
        case measure => simp [intOf]; omega
      · obtain ⟨av, cv, rfl, _⟩ := hV.len
        rw [hL] at hV ⊢
        clear hL
        cases xs with
        | nil =>
          obtain ⟨ax, cx, rfl, _⟩ := hX.len
          rw [List.length_nil]
          go_wp2_with (go_at_call 32; fail)
          refine (lg_Hand_ok hS).mono ?_
          rintro e w2 ⟨rfl, h2, hk2⟩
          have hV2 := hV.keep hk2
          clear z0 z1 hS hX hV hk2 hM
          go_wp2_with (go_at_call 34; fail)
          refine (lg_Len h2).mono ?_
          rintro e w' ⟨rfl, rfl⟩
          rw [List.length_nil]
          go_wp2_with (go_at_call 42; fail)
          refine (lg_BLen h2).mono ?_
          rintro e w' ⟨rfl, rfl⟩
          rw [HL.out]
          go_wp2_with (go_at_call 30; fail)
          refine (lg_Full h2).mono ?_
          rintro e w6 ⟨rfl, h6, hk6⟩
          rw [List.length_nil]
          have hv6 := SlAt.nil w6
          have bv6 := (hV2).keep hk6
          clear h2 hV2
          go_wp2
          go_roundw
          case rel => exact ⟨k + 1, [], bs, by omega, by go_num, by simp, h6, hv6, bv6⟩
          case measure => simp [intOf]; omega
        | cons x0 rs =>
          obtain ⟨ax, cx, rfl, _⟩ := hX.len
          obtain ⟨j, hj⟩ : ∃ j, (x0 :: rs).length = j := ⟨_, rfl⟩
          have hj1 : 1 ≤ j := by rw [← hj]; simp
          have HJ := Lib.hid hj
          rw [hj] at hX ⊢
          clear hM hj
          go_wp2_with (go_at_call 32; fail)
          refine (lg_Hand_no hS).mono ?_
          rintro e w' ⟨rfl, rfl⟩
          clear z0 z1
          go_wp2_with (go_at_call 34; fail)
          refine (lg_Len hS).mono ?_
          rintro e w' ⟨rfl, rfl⟩
          rw [HL.out]
          go_wp2_with (go_at_call 42; fail)
          refine (lg_BLen hS).mono ?_
          rintro e w' ⟨rfl, rfl⟩
          rw [HJ.out]
          go_wp2_with (go_at_call 30; fail)
          refine (lg_Full hS).mono ?_
          rintro e w6 ⟨rfl, h6, hk6⟩
          rw [HL.out]
          have hv6 := (hV).keep hk6
          have bv6 := (hX).keep hk6
          go_wp2
          go_roundw
          case rel => exact ⟨k + 1, bs, (x0 :: rs), by omega, by go_num, by rw [HL.out]; omega, h6, hv6, bv6⟩
          case measure => simp [intOf]; omega
      · obtain ⟨ax, cx, rfl, _⟩ := hX.len
        rw [hM] at hX ⊢
        clear hM
        by_cases hr : L < K
        · have hr' : (L : Int) < (K : Int) := by omega
          have hne : (((bs.length : Nat) : Int) == (K : Int)) = false := by rw [hL]; simp; omega
          have HNE := Lib.hid hne
          clear hne
          rcases id hV with ⟨rfl, rfl⟩ | ⟨g, o', cap', cur, rfl, hc1, hc2, hc3⟩
          · obtain rfl : L = 0 := by simpa using hL.symm
            clear hL
            go_wp2_with (go_at_call 33; fail)
            refine (lg_Add_ok hS x HNE.out (by simp)).mono ?_
            rintro e w2 ⟨rfl, h2, hk2⟩
            have z1' := (HC.out _ h2.touch).2
            have hV2 := hV.keep hk2
            have hX2 := hX.keep hk2
            obtain ⟨g', c', w3, hrun, HG⟩ := sl_append hV2 HL.out x (by omega)
            have H2 := Lib.hid h2
            clear h2 z0 z1 hV hX hk2 hV2 hS
            go_wp2_with fail
            go_region
            have h3 := H2.out.old HG.out.1
            have hX3 := hX2.old HG.out.1
            have hV3 := HG.out.2.1
            clear hrun z1' hX2
            go_wp2_with (go_at_call 34; fail)
            refine (lg_Len h3).mono ?_
            rintro e w' ⟨rfl, rfl⟩
            rw [List.length_append, HL.out]
            simp only [List.length_cons, List.length_nil, Nat.zero_add]
            go_wp2_with (go_at_call 42; fail)
            refine (lg_BLen h3).mono ?_
            rintro e w' ⟨rfl, rfl⟩
            rw [HM.out]
            go_wp2_with (go_at_call 30; fail)
            refine (lg_Full h3).mono ?_
            rintro e w6 ⟨rfl, h6, hk6⟩
            rw [List.length_append, HL.out]
            simp only [List.length_cons, List.length_nil, Nat.zero_add]
            have hv6 := (hV3).keep hk6
            have bv6 := (hX3).keep hk6
            clear h3 hV3 hX3
            go_wp2
            go_roundw
            case rel => exact ⟨k + 1, ([] ++ [x]), xs, by omega, by go_num, by rw [List.length_append, HL.out]; simp; omega, h6, hv6, bv6⟩
            case measure => simp [intOf]; omega
          · rw [hL] at hV hc1 ⊢
            clear hc2 hc3 hL
            go_wp2_with (go_at_call 33; fail)
            refine (lg_Add_ok hS x HNE.out (by rw [HL.out]; omega)).mono ?_
            rintro e w2 ⟨rfl, h2, hk2⟩
            have z1' := (HC.out _ h2.touch).2
            have hV2 := hV.keep hk2
            have hX2 := hX.keep hk2
            obtain ⟨g', c', w3, hrun, HG⟩ := sl_append hV2 HL.out x (by omega)
            have H2 := Lib.hid h2
            clear h2 z0 z1 hV hX hk2 hV2 hS
            go_wp2_with fail
            go_region
            have h3 := H2.out.old HG.out.1
            have hX3 := hX2.old HG.out.1
            have hV3 := HG.out.2.1
            clear hrun z1' hX2
            go_wp2_with (go_at_call 34; fail)
            refine (lg_Len h3).mono ?_
            rintro e w' ⟨rfl, rfl⟩
            rw [List.length_append, HL.out]
            simp only [List.length_cons, List.length_nil, Nat.zero_add]
            go_wp2_with (go_at_call 42; fail)
            refine (lg_BLen h3).mono ?_
            rintro e w' ⟨rfl, rfl⟩
            rw [HM.out]
            go_wp2_with (go_at_call 30; fail)
            refine (lg_Full h3).mono ?_
            rintro e w6 ⟨rfl, h6, hk6⟩
            rw [List.length_append, HL.out]
            simp only [List.length_cons, List.length_nil, Nat.zero_add]
            have hv6 := (hV3).keep hk6
            have bv6 := (hX3).keep hk6
            clear h3 hV3 hX3
            go_wp2
            go_roundw
            case rel => exact ⟨k + 1, (bs ++ [x]), xs, by omega, by go_num, by rw [List.length_append, HL.out]; simp; omega, h6, hv6, bv6⟩
            case measure => simp [intOf]; omega
        · have hr' : ¬ (L : Int) < (K : Int) := by omega
          have HNE := Lib.hid (show (((bs.length : Nat) : Int) == (K : Int)) = true by rw [hL]; simp; omega)
          obtain ⟨ao', cap', rfl, _⟩ := hV.len
          rw [hL] at hV ⊢
          clear hL
          go_wp2_with (go_at_call 33; fail)
          refine (lg_Add_no hS x HNE.out).mono ?_
          rintro e w2 ⟨rfl, h2, hk2⟩
          have hV2 := hV.keep hk2
          have hX2 := hX.keep hk2
          clear z0 z1 hS hV hX hk2
          go_wp2_with (go_at_call 34; fail)
          refine (lg_Len h2).mono ?_
          rintro e w' ⟨rfl, rfl⟩
          rw [HL.out]
          go_wp2_with (go_at_call 42; fail)
          refine (lg_BLen h2).mono ?_
          rintro e w' ⟨rfl, rfl⟩
          rw [HM.out]
          go_wp2_with (go_at_call 30; fail)
          refine (lg_Full h2).mono ?_
          rintro e w6 ⟨rfl, h6, hk6⟩
          rw [HL.out]
          have hv6 := (hV2).keep hk6
          have bv6 := (hX2).keep hk6
          clear h2 hV2 hX2
          go_wp2
          go_roundw
          case rel => exact ⟨k + 1, bs, xs, by omega, by go_num, by rw [HL.out]; omega, h6, hv6, bv6⟩
          case measure => simp [intOf]; omega
    · obtain rfl : k = n := by omega
      clear hlt hk
      go_wp2_with (go_at_call 43; fail)
      refine (lg_All hS).mono ?_
      rintro e w2 ⟨v', rfl, hv1, h2, hk2⟩
      go_wp2_with (go_at_call 25; fail)
      refine (ref01_Same _ _ bs w2 hv1.ints (hV.keep hk2).ints (by omega)).mono ?_
      rintro e w3 ⟨rfl, h3⟩
      go_wp2_with (go_at_call 27; fail)
      refine (law10_awake _).mono ?_
      rintro e w4 ⟨rfl, h4⟩
      have h24 := ((h2.touch.trans h3).trans h4).below
      clear hS h2 h3 h4 hv1 hV hX hk2
      go_wp2
      go_ret
      exact ⟨rfl, h24⟩
end Go.Proofs.Ythdlgffpcfjbiaa
