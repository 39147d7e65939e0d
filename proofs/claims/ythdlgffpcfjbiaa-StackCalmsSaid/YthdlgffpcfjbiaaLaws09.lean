/- The stack's laws, walked: None, Turns, Calms. Conditions: none. -/
import Derived.Test.YthdlgffpcfjbiaaStk
namespace Go.Proofs.Ythdlgffpcfjbiaa
open Go.RowKit

set_option maxHeartbeats 400000 in
theorem law_StackNone (r : Int) (_ : (Lit.int .i64 r).wf = true) (n : Int) (_ : (Lit.int .i64 n).wf = true) (w : World) :
    Calls Try.prog 7 #[.int .i64 r, .int .i64 n] w fun e w' => e = .returned (.bool true) ∧ Below w.heap.size w w' := by
  have HN := Lib.hid (fun w : World => stack_none w)
  rcases (show r < 1 ∨ 4096 < r ∨ (1 ≤ r ∧ r ≤ 4096) by omega) with h | h | ⟨h, h'⟩
  all_goals
    go_enter Try.func7, Try.ntmps7
    go_wp2_with (first | (go_at_call 19; refine (stack_New_no _ (by omega) _).mono ?_; rintro e w' ⟨rfl, rfl⟩) | (go_at_call 23; refine ((HN.out _).2.1).mono ?_; rintro e w1 ⟨rfl, hT1⟩) | (go_at_call 20; refine ((HN.out _).1 _).mono ?_; rintro e w2 ⟨rfl, hT2⟩) | (go_at_call 22; refine ((HN.out _).2.2.1).mono ?_; rintro e w3 ⟨rfl, hT3⟩) | (go_at_call 21; refine ((HN.out _).2.2.2.1).mono ?_; rintro e w4 ⟨rfl, hT4⟩) | (go_at_call 24; refine ((HN.out _).2.2.2.2.1).mono ?_; rintro e w5 ⟨rfl, hT5⟩) | (go_at_call 26; refine ((HN.out _).2.2.2.2.2).mono ?_; rintro e w6 ⟨rfl, hT6⟩) | (go_at_call 18; refine (law09_awake _).mono ?_; rintro e w7 ⟨rfl, hT7⟩))
    go_ret
    exact ⟨rfl, ((((((hT1.trans hT2).trans hT3).trans hT4).trans hT5).trans hT6).trans hT7).below⟩

theorem take_snoc {xs : List Int} {k : Nat} (h : k < xs.length) : xs.take (k + 1) = xs.take k ++ [xs.getD k 0] := by
  rw [List.take_add_one, List.getD_eq_getElem?_getD, List.getElem?_eq_getElem h]; rfl

set_option maxHeartbeats 2000000 in
theorem law_StackTurns {w : World} (s : Int) (hs : (Lit.int .u8 s).wf = true) (l : Value) (rows : List (List Value)) (hl : IsSlice w l [some .i64] rows) :
    Calls Try.prog 4 #[.int .u8 s, l] w fun e w' => e = .returned (.bool true) ∧ Below w.heap.size w w' := by
  obtain ⟨s0, s1⟩ := bounds_u8 hs
  clear hs
  obtain ⟨xs, hI, _, _⟩ := ints_of_slice hl
  clear hl
  obtain ⟨ao, cap, rfl, hI⟩ := hI
  obtain ⟨n, hn⟩ : ∃ n, xs.length = n := ⟨_, rfl⟩
  have HI : Hid (xs = [] ∨ ∃ b o, ao = some ⟨b, o, none⟩ ∧ xs.length ≤ cap ∧ ∀ j, j < xs.length → w.cell? ⟨b, o + j, none⟩ = some (.int .i64 (xs.getD j 0))) := hI
  rw [hn]
  have HN := Lib.hid hn
  clear hI hn
  by_cases h200 : 200 < n
  · go_enter Try.func4, Try.ntmps4
    go_wp2_with (go_at_call 18; fail)
    refine (law09_awake _).mono ?_
    rintro e w4 ⟨rfl, hT4⟩
    go_wp2
    go_ret
    exact ⟨rfl, hT4.below⟩
  obtain ⟨m, hm⟩ : ∃ m : Nat, s.tmod 50 = m := ⟨(s.tmod 50).toNat, by have := Int.tmod_nonneg 50 s0; omega⟩
  have hm50 : m < 50 := by have := Int.tmod_lt_of_pos s (show (0 : Int) < 50 by omega); omega
  obtain ⟨K, hK⟩ : ∃ K, K = 1 + m := ⟨_, rfl⟩
  have HK := Lib.hid hK
  go_enter Try.func4, Try.ntmps4
  go_wp2_with (go_at_call 19; fail)
  clear hm
  refine (stk_New _ (by omega) (by omega) _).mono ?_
  rintro e w1 ⟨p, rfl, h1⟩
  rw [show (1 : Int) + (m : Int) = (K : Int) by omega] at h1 ⊢
  have hK50 : K ≤ 50 ∧ 1 ≤ K := by omega
  obtain ⟨K0, K1⟩ := hK50
  clear hK hm50
  go_wp2_with fail
  go_loopw [8] (fun i wr => ∃ k : Nat, ∃ ys ov, k ≤ n ∧ i = .int .i64 k ∧ Hid (ys = xs.take (min k K) ∧ ov = decide (K < k)) ∧ Stk w wr p ys K ov) (fun i _ => n - (intOf i).toNat)
  case atStart => exact ⟨0, [], false, by omega, rfl, (by show _ ∧ _; simp), h1⟩
  case round =>
    obtain ⟨k, ys, ov, hk, rfl, HY, hS⟩ := hrel
    clear h1
    by_cases hlt : k < n
    · obtain ⟨b, o, hao, hcap, hcells⟩ := HI.out.resolve_left (by intro h; have := HN.out; rw [h] at this; simp at this; omega)
      subst hao
      rw [HN.out] at hcap hcells
      have hcx := (hS.1.cell (cell_lt (hcells k hlt)) (fun x => x)).trans (hcells k hlt)
      clear hcells
      obtain ⟨x, hx⟩ : ∃ x, xs.getD k 0 = x := ⟨_, rfl⟩
      rw [hx] at hcx
      have HX := Lib.hid hx
      clear hx
      have hb : (k : Int) < (n : Int) := by omega
      by_cases hr : k < K
      · have hr' : (k : Int) < (K : Int) := by omega
        go_wp2_with (go_at_call 20; fail)
        refine (stk_Push_ok hS _ (by rw [HY.out.1, List.length_take, HN.out]; omega)).mono ?_
        rintro e w2 ⟨rfl, h2⟩
        go_wp2
        go_roundw
        case rel =>
          refine ⟨k + 1, _, _, by omega, by go_num, ?_, h2⟩
          show _ ∧ _
          rw [HY.out.1, HY.out.2, Nat.min_eq_left (by omega), Nat.min_eq_left (by omega), take_snoc (by rw [HN.out]; exact hlt), HX.out]
          exact ⟨rfl, by simp; omega⟩
        case measure => simp [intOf]; omega
      · have hr' : ¬ (k : Int) < (K : Int) := by omega
        go_wp2_with (go_at_call 20; fail)
        refine (stk_Push_no hS _ (by rw [HY.out.1, List.length_take, HN.out]; omega)).mono ?_
        rintro e w2 ⟨rfl, h2⟩
        go_wp2
        go_roundw
        case rel =>
          refine ⟨k + 1, _, _, by omega, by go_num, ?_, h2⟩
          show _ ∧ _
          rw [HY.out.1, Nat.min_eq_right (by omega), Nat.min_eq_right (by omega)]
          exact ⟨rfl, by simp; omega⟩
        case measure => simp [intOf]; omega
    · obtain rfl : k = n := by omega
      clear hlt hk
      obtain ⟨M, hM⟩ : ∃ M, min k K = M := ⟨_, rfl⟩
      have HM : Hid (M ≤ k ∧ M ≤ K ∧ ys = xs.take M ∧ ys.length = M ∧ (K < k → M = K) ∧ (¬ K < k → M = k)) := by
        have h := HY.out.1
        rw [hM] at h
        refine ⟨by omega, by omega, h, by rw [h, List.length_take, HN.out]; omega, by omega, by omega⟩
      clear hM
      have HOV := Lib.hid HY.out.2
      clear HY
      by_cases hKk : K < k
      · have h1 : (K : Int) < (k : Int) := by omega
        obtain rfl : ov = true := by rw [HOV.out]; simp [hKk]
        obtain rfl : M = K := HM.out.2.2.2.2.1 hKk
        go_wp2_with (go_at_call 21; fail)
        refine (stk_Over hS).mono ?_
        rintro e w2 ⟨rfl, h2⟩
        go_wp2_with (go_at_call 22; fail)
        refine (stk_Len h2).mono ?_
        rintro e w3 ⟨rfl, h3⟩
        rw [HM.out.2.2.2.1]
        rw [HM.out.2.2.1] at h3
        clear hS h2
        go_wp2_with fail
        go_loopw [9] (fun i wr => ∃ j : Nat, j ≤ M ∧ i = .int .i64 ((j : Int) - 1) ∧ Stk w wr p (xs.take j) M true) (fun i _ => (intOf i + 1).toNat)
        case atStart => exact ⟨M, Nat.le_refl _, rfl, h3⟩
        case round =>
          obtain ⟨j, hj, rfl, hS2⟩ := hrel
          clear h3
          cases j with
          | zero =>
            rw [show (((0 : Nat) : Int) - 1) = -1 by rfl]
            rw [List.take_zero] at hS2
            go_wp2_with (go_at_call 22; fail)
            refine (stk_Len hS2).mono ?_
            rintro e w4 ⟨rfl, h4⟩
            rw [List.length_nil]
            go_wp2_with (go_at_call 24; fail)
            refine (stk_Calm h4).mono ?_
            rintro e w5 ⟨rfl, h5⟩
            go_wp2_with (go_at_call 21; fail)
            refine (stk_Over h5).mono ?_
            rintro e w6 ⟨rfl, h6⟩
            go_wp2_with (go_at_call 18; fail)
            refine (law09_awake _).mono ?_
            rintro e w7 ⟨rfl, h7⟩
            have h67 := (h6.1.trans h7).below
            clear hS2 h4 h5 h6 h7
            go_wp2
            go_ret
            exact ⟨rfl, h67⟩
          | succ i =>
            rw [show (((i + 1 : Nat) : Int) - 1) = (i : Int) by omega]
            have hik : i < k := by have := HM.out.1; omega
            obtain ⟨b, o, hao, hcap, hcells⟩ := HI.out.resolve_left (by intro h; have := HN.out; rw [h] at this; simp at this; omega)
            subst hao
            rw [HN.out] at hcap hcells
            have hcx0 := hcells i hik
            clear hcells
            rw [take_snoc (by rw [HN.out]; exact hik)] at hS2
            obtain ⟨x, hx⟩ : ∃ x, xs.getD i 0 = x := ⟨_, rfl⟩
            rw [hx] at hcx0 hS2
            clear hx
            have hb : (i : Int) < (k : Int) := by omega
            go_wp2_with (go_at_call 23; fail)
            refine (stk_Pop_ok hS2).mono ?_
            rintro e w4 ⟨rfl, h4⟩
            clear hS2
            have hcy := (h4.1.cell (cell_lt hcx0) (fun x => x)).trans hcx0
            go_wp2
            go_roundw
            case rel => exact ⟨i, by omega, rfl, h4⟩
            case measure => first | (simp [intOf]; done) | (simp [intOf]; omega)
      · have h1 : ¬ (K : Int) < (k : Int) := by omega
        have h1' : (k : Int) ≤ (K : Int) := by omega
        obtain rfl : ov = false := by rw [HOV.out]; simp; omega
        obtain rfl : M = k := HM.out.2.2.2.2.2 hKk
        have hmin : (if M < K then (M : Int) else (K : Int)) = M := by split <;> omega
        go_wp2_with (go_at_call 21; fail)
        refine (stk_Over hS).mono ?_
        rintro e w2 ⟨rfl, h2⟩
        go_wp2_with (go_at_call 22; fail)
        refine (stk_Len h2).mono ?_
        rintro e w3 ⟨rfl, h3⟩
        rw [HM.out.2.2.2.1]
        rw [HM.out.2.2.1] at h3
        clear hS h2
        go_wp2_with fail
        go_loopw [9] (fun i wr => ∃ j : Nat, j ≤ M ∧ i = .int .i64 ((j : Int) - 1) ∧ Stk w wr p (xs.take j) K false) (fun i _ => (intOf i + 1).toNat)
        case atStart => exact ⟨M, Nat.le_refl _, rfl, h3⟩
        case round =>
          obtain ⟨j, hj, rfl, hS2⟩ := hrel
          clear h3
          cases j with
          | zero =>
            rw [show (((0 : Nat) : Int) - 1) = -1 by rfl]
            rw [List.take_zero] at hS2
            go_wp2_with (go_at_call 22; fail)
            refine (stk_Len hS2).mono ?_
            rintro e w4 ⟨rfl, h4⟩
            rw [List.length_nil]
            go_wp2_with (go_at_call 24; fail)
            refine (stk_Calm h4).mono ?_
            rintro e w5 ⟨rfl, h5⟩
            go_wp2_with (go_at_call 21; fail)
            refine (stk_Over h5).mono ?_
            rintro e w6 ⟨rfl, h6⟩
            go_wp2_with (go_at_call 18; fail)
            refine (law09_awake _).mono ?_
            rintro e w7 ⟨rfl, h7⟩
            have h67 := (h6.1.trans h7).below
            clear hS2 h4 h5 h6 h7
            go_wp2
            go_ret
            exact ⟨rfl, h67⟩
          | succ i =>
            rw [show (((i + 1 : Nat) : Int) - 1) = (i : Int) by omega]
            have hik : i < M := by have := HM.out.1; omega
            obtain ⟨b, o, hao, hcap, hcells⟩ := HI.out.resolve_left (by intro h; have := HN.out; rw [h] at this; simp at this; omega)
            subst hao
            rw [HN.out] at hcap hcells
            have hcx0 := hcells i hik
            clear hcells
            rw [take_snoc (by rw [HN.out]; exact hik)] at hS2
            obtain ⟨x, hx⟩ : ∃ x, xs.getD i 0 = x := ⟨_, rfl⟩
            rw [hx] at hcx0 hS2
            clear hx
            have hb : (i : Int) < (M : Int) := by omega
            go_wp2_with (go_at_call 23; fail)
            refine (stk_Pop_ok hS2).mono ?_
            rintro e w4 ⟨rfl, h4⟩
            clear hS2
            have hcy := (h4.1.cell (cell_lt hcx0) (fun x => x)).trans hcx0
            go_wp2
            go_roundw
            case rel => exact ⟨i, by omega, rfl, h4⟩
            case measure => first | (simp [intOf]; done) | (simp [intOf]; omega)
set_option maxHeartbeats 2000000 in
theorem law_StackCalms (s : Int) (hs : (Lit.int .u8 s).wf = true) (t : Int) (ht : (Lit.int .u8 t).wf = true) (u : Int) (hu : (Lit.int .u8 u).wf = true) (w : World) :
    Calls Try.prog 5 #[.int .u8 s, .int .u8 t, .int .u8 u] w fun e w' => e = .returned (.bool true) ∧ Below w.heap.size w w' := by
  obtain ⟨s0, s1⟩ := bounds_u8 hs
  obtain ⟨t0, t1⟩ := bounds_u8 ht
  obtain ⟨u0, u1⟩ := bounds_u8 hu
  clear hs ht hu
  obtain ⟨m, hm⟩ : ∃ m : Nat, s.tmod 50 = m := ⟨(s.tmod 50).toNat, by have := Int.tmod_nonneg 50 s0; omega⟩
  have hm50 : m < 50 := by have := Int.tmod_lt_of_pos s (show (0 : Int) < 50 by omega); omega
  obtain ⟨r, hr⟩ : ∃ r : Nat, t.tmod 9 = r := ⟨(t.tmod 9).toNat, by have := Int.tmod_nonneg 9 t0; omega⟩
  have hr9 : r < 9 := by have := Int.tmod_lt_of_pos t (show (0 : Int) < 9 by omega); omega
  obtain ⟨P, rfl⟩ := Int.eq_ofNat_of_zero_le u0
  obtain ⟨K, hK⟩ : ∃ K, K = 1 + m := ⟨_, rfl⟩
  go_enter Try.func5, Try.ntmps5
  go_wp2_with (go_at_call 19; fail)
  clear hm
  refine (stk_New _ (by omega) (by omega) _).mono ?_
  rintro e w1 ⟨p, rfl, h1⟩
  rw [show (1 : Int) + (m : Int) = (K : Int) by omega] at h1 ⊢
  have hK50 : K ≤ 50 ∧ 1 ≤ K := by omega
  obtain ⟨K0, K1⟩ := hK50
  clear hK hm50
  go_wp2_with fail
  go_loopw [10] (fun i wr => ∃ k : Nat, ∃ ys, k ≤ K ∧ i = .int .i64 k ∧ Hid (ys.length = k) ∧ Stk w wr p ys K false) (fun i _ => K - (intOf i).toNat)
  case atStart => exact ⟨0, [], by omega, rfl, (by show _ = _; rfl), h1⟩
  case round =>
    obtain ⟨k, ys, hk, rfl, HY, hS⟩ := hrel
    clear h1
    by_cases hlt : k < K
    · have hlt' : (k : Int) < (K : Int) := by omega
      go_wp2_with (go_at_call 20; fail)
      refine (stk_Push_ok hS _ (by rw [HY.out]; omega)).mono ?_
      rintro e w2 ⟨rfl, h2⟩
      go_wp2_with (go_at_call 21; fail)
      refine (stk_Over h2).mono ?_
      rintro e w3 ⟨rfl, h3⟩
      go_wp2
      go_roundw
      case rel => exact ⟨k + 1, _, by omega, by go_num, (by show _ = _; rw [List.length_append, HY.out]; rfl), h3⟩
      case measure => simp [intOf]; omega
    · obtain rfl : k = K := by omega
      clear hlt hk
      go_wp2_with fail
      go_loopw [11] (fun i wr => ∃ j : Nat, j ≤ r ∧ i = .int .i64 j ∧ Stk w wr p ys k (decide (0 < j))) (fun i _ => r - (intOf i).toNat)
      case atStart => exact ⟨0, by omega, rfl, hS⟩
      case round =>
        obtain ⟨j, hj, rfl, hS2⟩ := hrel
        clear hS
        by_cases hlt : j < r
        · have hlt' : (j : Int) < (r : Int) := by omega
          go_wp2_with (go_at_call 20; fail)
          refine (stk_Push_no hS2 _ (by rw [HY.out]; omega)).mono ?_
          rintro e w2 ⟨rfl, h2⟩
          go_wp2
          go_roundw
          case rel => exact ⟨j + 1, by omega, by go_num, by rw [decide_eq_true (by omega)]; exact h2⟩
          case measure => simp [intOf]; omega
        · obtain rfl : j = r := by omega
          clear hlt hj
          go_wp2_with fail
          go_loopw [12] (fun i wr => ∃ i' : Nat, ∃ zs, i' ≤ P ∧ i = .int .i64 i' ∧ Hid (zs.length = k - i') ∧ Stk w wr p zs k (decide (0 < j))) (fun i _ => P - (intOf i).toNat)
          case atStart => exact ⟨0, ys, by omega, rfl, (by show _ = _; rw [HY.out]; rfl), hS2⟩
          case round =>
            obtain ⟨q, zs, hq, rfl, HZ, hS3⟩ := hrel
            clear hS2
            by_cases hlt : q < P
            · have hlt' : (q : Int) < (P : Int) := by omega
              go_wp2_with (go_at_call 23; fail)
              refine (stk_Pop_any hS3).mono ?_
              rintro e w2 ⟨⟨y, b, rfl⟩, h2⟩
              go_wp2
              go_roundw
              case rel => exact ⟨q + 1, _, by omega, by go_num, (by show _ = _; rw [List.length_dropLast, HZ.out]; omega), h2⟩
              case measure => simp [intOf]; omega
            · obtain rfl : q = P := by omega
              clear hlt hq
              cases hov : decide (0 < j)
              all_goals
                rw [hov] at hS3
                go_wp2_with (go_at_call 21; fail)
                refine (stk_Over hS3).mono ?_
                rintro e w2 ⟨rfl, h2⟩
                go_wp2_with (go_at_call 24; fail)
                refine (stk_Calm h2).mono ?_
                rintro e w3 ⟨rfl, h3⟩
                go_wp2_with (go_at_call 21; fail)
                refine (stk_Over h3).mono ?_
                rintro e w4 ⟨rfl, h4⟩
                go_wp2_with (go_at_call 24; fail)
                refine (stk_Calm h4).mono ?_
                rintro e w5 ⟨rfl, h5⟩
                go_wp2_with (go_at_call 22; fail)
                refine (stk_Len h5).mono ?_
                rintro e w6 ⟨rfl, h6⟩
                rw [HZ.out]
                clear hS3 h2 h3 h4 h5
                rcases Nat.lt_trichotomy q k with hkq | hkq | hkq
                · have hkq' : (q : Int) < (k : Int) := by omega
                  rw [show ((k - q : Nat) : Int) = (k : Int) - q by omega]
                  go_wp2_with (go_at_call 18; fail)
                  refine (law09_awake _).mono ?_
                  rintro e w7 ⟨rfl, h7⟩
                  have h67 := (h6.1.trans h7).below
                  clear h6 h7
                  go_wp2
                  go_ret
                  exact ⟨rfl, h67⟩
                · subst hkq
                  rw [show ((q - q : Nat) : Int) = 0 by omega]
                  go_wp2_with (go_at_call 18; fail)
                  refine (law09_awake _).mono ?_
                  rintro e w7 ⟨rfl, h7⟩
                  have h67 := (h6.1.trans h7).below
                  clear h6 h7
                  go_wp2
                  go_ret
                  exact ⟨rfl, h67⟩
                · have hkq' : (k : Int) < (q : Int) := by omega
                  rw [show ((k - q : Nat) : Int) = 0 by omega]
                  go_wp2_with (go_at_call 18; fail)
                  refine (law09_awake _).mono ?_
                  rintro e w7 ⟨rfl, h7⟩
                  have h67 := (h6.1.trans h7).below
                  clear h6 h7
                  go_wp2
                  go_ret
                  exact ⟨rfl, h67⟩
end Go.Proofs.Ythdlgffpcfjbiaa
