/- The arena's laws, walked: Counts. Conditions: none. -/
import Derived.Test.YthdlgffpcfjbiaaLaws06
namespace Go.Proofs.Ythdlgffpcfjbiaa
open Go.RowKit

set_option maxHeartbeats 1000000 in
theorem law_ArenaCounts {w : World} (s : Int) (hs : (Lit.int .u8 s).wf = true) (l : Value) (rows : List (List Value)) (hl : IsSlice w l [some .i64] rows) :
    Calls Try.prog 9 #[.int .u8 s, l] w fun e w' => e = .returned (.bool true) ∧ Below w.heap.size w w' := by
  obtain ⟨s0, s1⟩ := bounds_u8 hs
  clear hs
  obtain ⟨xs, hI, _, _⟩ := ints_of_slice hl
  clear hl
  obtain ⟨ao, cap, rfl, hI⟩ := hI
  obtain ⟨n, hn⟩ : ∃ n, xs.length = n := ⟨_, rfl⟩
  have HI : Hid (xs = [] ∨ ∃ b o, ao = some ⟨b, o, none⟩ ∧ xs.length ≤ cap ∧ ∀ j, j < xs.length → w.cell? ⟨b, o + j, none⟩ = some (.int .i64 (xs.getD j 0))) := hI
  rw [hn]
  have HN := Lib.hid hn
  clear hI hn
  by_cases h200 : 200 < n
  · go_enter Try.func9, Try.ntmps9
    go_wp2_with (go_at_call 17; fail)
    refine (law06_awake _).mono ?_
    rintro e w4 ⟨rfl, hT4⟩
    go_wp2
    go_ret
    exact ⟨rfl, hT4.below⟩
  obtain ⟨m, hm⟩ : ∃ m : Nat, s.tmod 60 = m := ⟨(s.tmod 60).toNat, by have := Int.tmod_nonneg 60 s0; omega⟩
  have hm60 : m < 60 := by have := Int.tmod_lt_of_pos s (show (0 : Int) < 60 by omega); omega
  go_enter Try.func9, Try.ntmps9
  go_wp2_with (go_at_call 14; fail)
  refine (arena_New_at _ (1 + m) (by omega) (by omega) (by omega) _).mono ?_
  rintro e w1 ⟨p, q, rfl, hT1, hp, hq, hA⟩
  go_wp2_with fail
  clear hm
  go_loopw [7, 8, 9] (fun lo st i wr => ∃ k : Nat, ∃ L S : Nat, ∃ ws, k ≤ n ∧ L ≤ k ∧ S ≤ k ∧ i = .int .i64 k ∧ lo = .int .i64 L ∧ st = .int .i64 S ∧ Touch nob w wr ∧ ArenaAt wr p q (1 + m) ws L S ∧ ws.length = 1 + m) (fun _ _ i _ => n - (intOf i).toNat)
  case atStart => exact ⟨0, 0, 0, _, by omega, by omega, by omega, rfl, rfl, rfl, hT1, hA, by simp⟩
  case round =>
    obtain ⟨k, L, S, ws, hk, hL, hS, rfl, rfl, rfl, hTr, hAr, hlen⟩ := hrel
    have HLEN := Lib.hid hlen
    clear hT1 hA hlen
    by_cases hlt : k < n
    · obtain ⟨b, o, hao, hcap, hcells⟩ := HI.out.resolve_left (by intro h; have := HN.out; rw [h] at this; simp at this; omega)
      subst hao
      rw [HN.out] at hcap hcells
      have hcx := (hTr.cell (cell_lt (hcells k hlt)) (fun x => x)).trans (hcells k hlt)
      clear hcells
      obtain ⟨x, hx⟩ : ∃ x, xs.getD k 0 = x := ⟨_, rfl⟩
      rw [hx] at hcx
      clear hx
      cases hev : ((k : Int) % 2 == 0)
      rotate_left
      · by_cases hr : 1 ≤ x ∧ x ≤ 1 + m
        · obtain ⟨i, hi⟩ : ∃ i : Nat, x = i + 1 := ⟨(x - 1).toNat, by omega⟩
          have HJ := Lib.hid hi
          clear hi
          go_wp2_with (go_at_call 15; fail)
          refine (arena_Store_at p q _ _ _ _ _ _ i _ hAr HJ.out (by rw [HLEN.out]; have := HJ.out; omega)).mono ?_
          rintro e w2 ⟨rfl, hT2, hA2⟩
          rw [wrap64_in (by omega) (by omega)] at hA2
          go_wp2
          go_roundw
          case rel => exact ⟨k + 1, L, S + 1, _, by omega, by omega, by omega, by go_num, by go_num, by go_num, hTr.step hT2 (fun i hi => .inr (by omega)), hA2, by rw [List.length_set]; exact HLEN.out⟩
          case measure => simp [intOf]; omega
        · have hrn : x < 1 ∨ 1 + m < x := by omega
          clear hr
          go_wp2_with (go_at_call 15; fail)
          refine (arena_Store_no p q _ _ _ _ _ _ _ hAr (by rw [HLEN.out]; omega)).mono ?_
          rintro e w2 ⟨rfl, hT2⟩
          have hE := atE_no (n := ws.length) (a := x) (by rw [HLEN.out]; omega)
          obtain ⟨f, hf⟩ : ∃ f, atE ws.length x = f := ⟨_, rfl⟩
          rw [hf] at hE ⊢
          clear hf hrn
          go_wp2
          go_roundw
          case rel => exact ⟨k + 1, L, S, _, by omega, by omega, by omega, by go_num, by go_num, by go_num, hTr.trans hT2, hAr.touch hT2 (fun x => x) (fun x => x), HLEN.out⟩
          case measure => simp [intOf]; omega
      · by_cases hr : 1 ≤ x ∧ x ≤ 1 + m
        · obtain ⟨i, hi⟩ : ∃ i : Nat, x = i + 1 := ⟨(x - 1).toNat, by omega⟩
          have HJ := Lib.hid hi
          clear hi
          go_wp2_with (go_at_call 16; fail)
          refine (arena_Load_at p q _ _ _ _ _ i _ hAr HJ.out (by rw [HLEN.out]; have := HJ.out; omega)).mono ?_
          rintro e w2 ⟨rfl, hT2, hA2⟩
          rw [wrap64_in (by omega) (by omega)] at hA2
          go_wp2
          go_roundw
          case rel => exact ⟨k + 1, L + 1, S, _, by omega, by omega, by omega, by go_num, by go_num, by go_num, hTr.step hT2 (fun i hi => .inr (by omega)), hA2, HLEN.out⟩
          case measure => simp [intOf]; omega
        · have hrn : x < 1 ∨ 1 + m < x := by omega
          clear hr
          go_wp2_with (go_at_call 16; fail)
          refine (arena_Load_no p q _ _ _ _ _ _ hAr (by rw [HLEN.out]; omega)).mono ?_
          rintro e w2 ⟨rfl, hT2⟩
          have hE := atE_no (n := ws.length) (a := x) (by rw [HLEN.out]; omega)
          obtain ⟨f, hf⟩ : ∃ f, atE ws.length x = f := ⟨_, rfl⟩
          rw [hf] at hE ⊢
          clear hf hrn
          go_wp2
          go_roundw
          case rel => exact ⟨k + 1, L, S, _, by omega, by omega, by omega, by go_num, by go_num, by go_num, hTr.trans hT2, hAr.touch hT2 (fun x => x) (fun x => x), HLEN.out⟩
          case measure => simp [intOf]; omega
    · obtain rfl : k = n := by omega
      go_wp2_with (go_at_call 35; fail)
      refine (arena_Dump p q _ _ _ _ _ hAr).mono ?_
      rintro e w2 ⟨g, cap', rfl, hT2, _, _⟩
      have hA2 := hAr.touch hT2 (fun x => x) (fun x => x)
      have hTs := hTr.trans hT2
      clear hAr hTr hT2
      go_wp2_with (go_at_call 36; fail)
      refine (arena_Loads p q _ _ _ _ _ hA2).mono ?_
      rintro e w' ⟨rfl, rfl⟩
      go_wp2_with (go_at_call 37; fail)
      refine (arena_Stores p q _ _ _ _ _ hA2).mono ?_
      rintro e w' ⟨rfl, rfl⟩
      go_wp2_with (go_at_call 38; fail)
      refine (arena_Copy p q _ _ _ _ _ hA2).mono ?_
      rintro e w3 ⟨p', g', cap'', rfl, hT3, _, _, hA3⟩
      go_wp2_with (go_at_call 36; fail)
      refine (arena_Loads p' g' _ _ _ _ _ hA3).mono ?_
      rintro e w' ⟨rfl, rfl⟩
      have hTs3 := hTs.trans hT3
      clear hA2 hA3 hTs hT3
      go_wp2_with (go_at_call 17; refine (law06_awake _).mono ?_; rintro e w4 ⟨rfl, hT4⟩)
      go_ret
      exact ⟨rfl, (hTs3.trans hT4).below⟩
end Go.Proofs.Ythdlgffpcfjbiaa
