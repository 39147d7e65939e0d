/- The stack's law Plays, walked. Conditions: none. -/
import Derived.Test.YthdlgffpcfjbiaaSh
import Derived.Test.YthdlgffpcfjbiaaSlAdd
import Derived.BigRegion
namespace Go.Proofs.Ythdlgffpcfjbiaa
open Go.RowKit
attribute [local go_sem ↓ high] builtin_appd

theorem own_cut {g o n cap n' cap' : Nat} : ∀ b, (Value.slice (some ⟨g, o, none⟩) n cap).ownBlock = some b → (Value.slice (some ⟨g, o, none⟩) n' cap').ownBlock = some b := fun _ h => h

set_option maxRecDepth 10000 in
set_option maxHeartbeats 4000000 in
theorem law_StackPlays {w : World} (s : Int) (hs : (Lit.int .u8 s).wf = true) (l : Value) (rows : List (List Value)) (hl : IsSlice w l [some .u8, some .i64] rows) :
    Calls Try.prog 6 #[.int .u8 s, l] w fun e w' => e = .returned (.bool true) ∧ Below w.heap.size w w' := by
  obtain ⟨s0, s1⟩ := bounds_u8 hs
  clear hs
  obtain ⟨n, hI, _⟩ := rows_of_slice hl (by simp)
  clear hl
  obtain ⟨ao, cap, rfl, hI⟩ := hI
  have HI := Lib.hid hI
  clear hI
  by_cases h200 : 200 < n
  · go_enter Try.func6, Try.ntmps6
    go_wp2_with (go_at_call 18; fail)
    refine (law09_awake _).mono ?_
    rintro e w4 ⟨rfl, hT4⟩
    go_wp2
    go_ret
    exact ⟨rfl, hT4.below⟩
  obtain ⟨m, hm⟩ : ∃ m : Nat, s.tmod 20 = m := ⟨(s.tmod 20).toNat, by have := Int.tmod_nonneg 20 s0; omega⟩
  have hm20 : m < 20 := by have := Int.tmod_lt_of_pos s (show (0 : Int) < 20 by omega); omega
  obtain ⟨K, hK⟩ : ∃ K, K = 1 + m := ⟨_, rfl⟩
  go_enter Try.func6, Try.ntmps6
  go_wp2_with (go_at_call 19; fail)
  clear hm
  refine (stack_New_ok _ (by omega) (by omega) _).mono ?_
  rintro e w1 ⟨rfl, hT, hA⟩
  obtain ⟨p, hp⟩ : ∃ p, p = w.heap.size := ⟨_, rfl⟩
  rw [← hp] at hA ⊢
  have h1 := Sh.of_new hT (by omega) hA
  rw [show (1 : Int) + (m : Int) = (K : Int) by omega] at h1 ⊢
  have hK50 : K ≤ 20 ∧ 1 ≤ K := by omega
  obtain ⟨K0, K1⟩ := hK50
  clear hK hm20 hT hA hp
  go_wp2_with fail
  go_loopw [8, 9, 10] (fun hv ov i wr => ∃ k : Nat, ∃ ob xs, k ≤ n ∧ i = .int .i64 k ∧ ov = .bool ob ∧ xs.length ≤ K ∧ Sh w wr p xs K ob hv xs) (fun _ _ i _ => n - (intOf i).toNat)
  case atStart => exact ⟨0, false, [], by omega, rfl, rfl, by simp, h1⟩
  case round =>
    obtain ⟨k, ob, xs, hk, rfl, rfl, hxl, hS⟩ := hrel
    clear h1
    by_cases hlt : k < n
    · obtain ⟨b, o, hao, hcap, hmx, hcells⟩ := HI.out.resolve_left (by omega)
      subst hao
      obtain ⟨r, hfit, hcx⟩ := hcells k hlt
      obtain ⟨kd, us1, rfl, _, hf1⟩ := fits_int hfit
      obtain ⟨x, us2, rfl, _, hf2⟩ := fits_int hf1
      obtain rfl := fits_nil hf2
      have y0 := hcx 0 (by simp)
      have y1 := hcx 1 (by simp)
      simp only [List.length_cons, List.length_nil, Nat.zero_add, Nat.reduceAdd, Nat.add_zero, List.getElem?_cons_zero, List.getElem?_cons_succ, ← Nat.add_assoc] at y0 y1
      have HC : Hid (∀ w', Touch nob w w' → w'.cell? ⟨b, o + k * 2, none⟩ = some (.int .u8 kd) ∧ w'.cell? ⟨b, o + k * 2 + 1, none⟩ = some (.int .i64 x)) := fun w' ht => ⟨(ht.cell (cell_lt y0) (fun x => x)).trans y0, (ht.cell (cell_lt y1) (fun x => x)).trans y1⟩
      obtain ⟨z0, z1⟩ := HC.out _ hS.touch
      have hb : (k : Int) < (n : Int) := by omega
      clear hcx hcells y0 y1 hfit hf1 hf2
      rcases (show kd = 0 ∨ kd = 1 ∨ (kd ≠ 0 ∧ kd ≠ 1) by omega) with rfl | rfl | ⟨hk0, hk1⟩
      · go_wp2_with (go_at_call 23; fail)
        rcases List.eq_nil_or_concat xs with rfl | ⟨ys, y, rfl⟩
        · refine (sh_Pop_no hS).mono ?_
          rintro e w2 ⟨rfl, h2⟩
          obtain ⟨ao', cap', rfl, _⟩ := h2.sl.len
          rw [List.length_nil]
          go_wp2
          go_roundw
          case rel => exact ⟨k + 1, _, [], by omega, by go_num, rfl, by simp, h2⟩
          case measure => simp [intOf]; omega
        · rw [List.concat_eq_append] at hS hxl
          refine (sh_Pop_ok hS).mono ?_
          rintro e w2 ⟨rfl, h2⟩
          rw [List.length_append] at hxl
          simp only [List.length_cons, List.length_nil, Nat.zero_add] at hxl
          rcases id h2.sl with ⟨_, h0⟩ | ⟨g, o', cap', cur, rfl, hc1, hc2, hc3⟩
          · simp at h0
          have hcy := h2.sl.cell (j := ys.length) (by simp)
          rw [show (ys ++ [y]).getD ys.length 0 = y by simp [List.getD_eq_getElem?_getD]] at hcy
          obtain ⟨j, hj⟩ : ∃ j, ys.length = j := ⟨_, rfl⟩
          rw [show (ys ++ [y]).length = j + 1 by simp [hj]] at hc1 h2 ⊢
          have h3 := h2.have (h2.sl.init hj.symm) own_cut
          rw [hj] at hcy hxl
          have HJ := Lib.hid hj
          clear hc2 hc3 h2 hj
          go_wp2_with (go_at_call 22; fail)
          refine (sh_Len h3).mono ?_
          rintro e w3 ⟨rfl, h4⟩
          rw [HJ.out]
          go_wp2_with (go_at_call 21; fail)
          refine (sh_Over h4).mono ?_
          rintro e w4 ⟨rfl, h5⟩
          clear h3 h4 hcy
          go_wp2
          go_roundw
          case rel => exact ⟨k + 1, _, ys, by omega, by go_num, rfl, by rw [HJ.out]; omega, h5⟩
          case measure => simp [intOf]; omega
      · go_wp2_with (go_at_call 24; fail)
        refine (sh_Calm hS).mono ?_
        rintro e w2 ⟨rfl, h2⟩
        obtain ⟨ao', cap', rfl, _⟩ := h2.sl.len
        obtain ⟨L, hL⟩ : ∃ L, xs.length = L := ⟨_, rfl⟩
        rw [hL] at h2 hxl ⊢
        have HL := Lib.hid hL
        clear hL z0 z1 hS
        go_wp2_with (go_at_call 22; fail)
        refine (sh_Len h2).mono ?_
        rintro e w5 ⟨rfl, h5⟩
        rw [HL.out]
        go_wp2_with (go_at_call 21; fail)
        refine (sh_Over h5).mono ?_
        rintro e w6 ⟨rfl, h6⟩
        clear h2 h5
        go_wp2
        go_roundw
        case rel => exact ⟨k + 1, _, xs, by omega, by go_num, rfl, by rw [HL.out]; omega, h6⟩
        case measure => simp [intOf]; omega
      · obtain ⟨L, hL⟩ : ∃ L, xs.length = L := ⟨_, rfl⟩
        have HL := Lib.hid hL
        rw [hL] at hxl
        by_cases hr : L < K
        · have hr' : (L : Int) < (K : Int) := by omega
          rcases id hS.sl with ⟨rfl, rfl⟩ | ⟨g, o', cap', cur, rfl, hc1, hc2, hc3⟩
          · obtain rfl : L = 0 := by simpa using hL.symm
            clear hL
            go_wp2_with (go_at_call 20; fail)
            refine (sh_Push_ok hS x (by simp; omega)).mono ?_
            rintro e w2 ⟨rfl, h2⟩
            clear hS
            have z1' := (HC.out _ h2.touch).2
            obtain ⟨g', c', w3, hrun, HG⟩ := sl_append h2.sl HL.out x (by omega)
            have H2 := Lib.hid h2
            clear h2 z0 z1
            go_wp2_with fail
            go_region
            have h3 := H2.out.grow HG.out.1 HG.out.2.1 (fun b hb => by cases hb; exact HG.out.2.2)
            clear hrun z1'
            go_wp2_with (go_at_call 22; fail)
            refine (sh_Len h3).mono ?_
            rintro e w5 ⟨rfl, h5⟩
            rw [List.length_append, HL.out]
            simp only [List.length_cons, List.length_nil, Nat.zero_add]
            go_wp2_with (go_at_call 21; fail)
            refine (sh_Over h5).mono ?_
            rintro e w6 ⟨rfl, h6⟩
            clear h3 h5
            go_wp2
            go_roundw
            case rel => exact ⟨k + 1, _, _, by omega, by go_num, rfl, by rw [List.length_append, HL.out]; simp; omega, h6⟩
            case measure => simp [intOf]; omega
          · rw [hL] at hS hc1 ⊢
            clear hc2 hc3 hL
            go_wp2_with (go_at_call 20; fail)
            refine (sh_Push_ok hS x (by rw [HL.out]; omega)).mono ?_
            rintro e w2 ⟨rfl, h2⟩
            clear hS
            have z1' := (HC.out _ h2.touch).2
            obtain ⟨g', c', w3, hrun, HG⟩ := sl_append h2.sl HL.out x (by omega)
            have H2 := Lib.hid h2
            clear h2 z0 z1
            go_wp2_with fail
            go_region
            have h3 := H2.out.grow HG.out.1 HG.out.2.1 (fun b hb => by cases hb; exact HG.out.2.2)
            clear hrun z1'
            go_wp2_with (go_at_call 22; fail)
            refine (sh_Len h3).mono ?_
            rintro e w5 ⟨rfl, h5⟩
            rw [List.length_append, HL.out]
            simp only [List.length_cons, List.length_nil, Nat.zero_add]
            go_wp2_with (go_at_call 21; fail)
            refine (sh_Over h5).mono ?_
            rintro e w6 ⟨rfl, h6⟩
            clear h3 h5
            go_wp2
            go_roundw
            case rel => exact ⟨k + 1, _, _, by omega, by go_num, rfl, by rw [List.length_append, HL.out]; simp; omega, h6⟩
            case measure => simp [intOf]; omega
        · have hr' : ¬ (L : Int) < (K : Int) := by omega
          obtain ⟨ao', cap', rfl, _⟩ := hS.sl.len
          rw [hL] at hS ⊢
          clear hL
          go_wp2_with (go_at_call 20; fail)
          refine (sh_Push_no hS x (by rw [HL.out]; omega)).mono ?_
          rintro e w2 ⟨rfl, h2⟩
          clear hS z0 z1
          go_wp2_with (go_at_call 22; fail)
          refine (sh_Len h2).mono ?_
          rintro e w5 ⟨rfl, h5⟩
          rw [HL.out]
          go_wp2_with (go_at_call 21; fail)
          refine (sh_Over h5).mono ?_
          rintro e w6 ⟨rfl, h6⟩
          clear h2 h5
          go_wp2
          go_roundw
          case rel => exact ⟨k + 1, _, xs, by omega, by go_num, rfl, by rw [HL.out]; omega, h6⟩
          case measure => simp [intOf]; omega
    · obtain rfl : k = n := by omega
      clear hlt hk
      go_wp2_with (go_at_call 26; fail)
      refine (sh_All hS).mono ?_
      rintro e w2 ⟨v', rfl, hv1, h2⟩
      go_wp2_with (go_at_call 25; fail)
      refine (ref01_Same _ _ xs w2 hv1 h2.sl.ints (by omega)).mono ?_
      rintro e w3 ⟨rfl, h3⟩
      go_wp2_with (go_at_call 18; fail)
      refine (law09_awake _).mono ?_
      rintro e w4 ⟨rfl, h4⟩
      have h24 := ((h2.touch.trans h3).trans h4).below
      clear hS h2 h3 h4 hv1
      go_wp2
      go_ret
      exact ⟨rfl, h24⟩
end Go.Proofs.Ythdlgffpcfjbiaa
