/- The law BitsCopies, walked. Conditions: the library's table reads as laid. -/
import Derived.Test.YtjbmpdibjfcafaaDoorLaws01c
import Derived.Test.YtjbmpdibjfcafaaDoorFill
namespace Go.Proofs.YtjbmpdibjfcafaaDoor
open Go.RowKit

variable {w wr : World} {p q cap p' q' cap' s0 s1 : Nat} {ws us : List Nat} {A B : Nat → Bool}
theorem cnt_full {M : Nat → Bool} : ∀ {n : Nat}, cnt M n = n ↔ ∀ k, k < n → M k = true
  | 0 => by simp [cnt]
  | n + 1 => by
    have h1 := cnt_le M n
    have h2 := cnt_full (M := M) (n := n)
    show cnt M n + (M n).toNat = n + 1 ↔ _
    constructor
    · intro h k hk
      cases hn : M n
      · rw [hn] at h; simp at h; omega
      · by_cases hkn : k = n
        · rw [hkn]; exact hn
        · rw [hn] at h; simp at h
          exact h2.1 h k (by omega)
    · intro h
      rw [h n (by omega), h2.2 (fun k hk => h k (by omega))]; rfl
theorem cnt_zero {M : Nat → Bool} : ∀ {n : Nat}, cnt M n = 0 ↔ ∀ k, k < n → M k = false
  | 0 => by simp [cnt]
  | n + 1 => by
    have h2 := cnt_zero (M := M) (n := n)
    show cnt M n + (M n).toNat = 0 ↔ _
    constructor
    · intro h k hk
      cases hn : M n
      · by_cases hkn : k = n
        · rw [hkn]; exact hn
        · exact h2.1 (by omega) k (by omega)
      · rw [hn] at h; simp at h
    · intro h
      rw [h n (by omega), h2.2 (fun k hk => h k (by omega))]; rfl
theorem Two.left_step {w' : World} {ws' : List Nat} {A' : Nat → Bool} (h : Two w wr p q cap p' q' cap' s0 s1 ws us A B) (g2 : Touch (fun k => k = q) wr w') (g3 : SetAt w' p q cap ws' s0 A') : Two w w' p q cap p' q' cap' s0 s1 ws' us A' B :=
  ⟨h.touch.step g2 (fun i hi => .inr (by rw [hi]; exact h.hq)), h.hp, h.hq, h.hp', h.hq', h.apart, g3, h.right.touch g2 h.apart.2.1.symm h.apart.2.2.symm⟩
theorem two_FillT (h : Two w wr p q cap p' q' cap' s0 s1 ws us A B) :
    Calls Tryd.prog 39 #[.pointer (some ⟨p, 0, none⟩), .bool true] wr fun e w' => ∃ v ws' A', e = .returned v ∧ Two w w' p q cap p' q' cap' s0 s1 ws' us A' B ∧ ∀ k, k < s0 → A' k = true :=
  (set_Fill_true h.left).mono fun _ _ ⟨⟨v, g1⟩, g2, ws', A', g3, g4⟩ => ⟨v, ws', A', g1, h.left_step g2 g3, g4⟩
theorem two_FillF (h : Two w wr p q cap p' q' cap' s0 s1 ws us A B) (hT : Tab w) :
    Calls Tryd.prog 39 #[.pointer (some ⟨p, 0, none⟩), .bool false] wr fun e w' => ∃ v ws' A', e = .returned v ∧ Two w w' p q cap p' q' cap' s0 s1 ws' us A' B ∧ ∀ k, k < s0 → A' k = false :=
  (set_Fill_false h.left (hT.touch h.touch (fun x => x)) (fun e => by have := hT.lt; have := h.hq; omega)).mono fun _ _ ⟨⟨v, g1⟩, g2, ws', A', g3, g4⟩ => ⟨v, ws', A', g1, h.left_step g2 g3, g4⟩
theorem two_of_copy {w2 : World} (h : One w wr p q cap s0 ws A) (ht : Touch nob wr w2) (hp : wr.heap.size ≤ p') (hq : wr.heap.size ≤ q') (hS : SetAt w2 p' q' cap' ws s0 A) : Two w w2 p q cap p' q' cap' s0 s0 ws ws A A := by
  have h1 := blk_lt h.set.box
  have h2 := h.set.row.lt
  have h3 := h.touch.size
  exact ⟨h.touch.trans ht, h.hp, h.hq, by omega, by omega, by omega, h.set.touch ht (fun x => x) (fun x => x), hS⟩
theorem same_cnt (h : Two w wr p q cap p' q' cap' s0 s0 ws us A B) (b : Bool) (hA : ∀ k, k < s0 → A k = b) : sameB ws us s0 s0 = decide (∀ k, k < s0 → B k = b) := by
  apply Bool.eq_iff_iff.2
  unfold sameB
  simp only [Bool.and_eq_true, decide_eq_true_eq]
  constructor
  · rintro ⟨_, h2⟩ k hk
    rw [← (h.left.rep.eq h.right.rep).1 h2 k hk, hA k hk]
  · intro h2
    exact ⟨trivial, (h.left.rep.eq h.right.rep).2 fun k hk => by rw [hA k hk, h2 k hk]⟩

set_option maxRecDepth 20000 in
set_option maxHeartbeats 8000000 in
theorem law_BitsCopies {w : World} (s : Int) (hs : (Lit.int .u16 s).wf = true) (l : Value) (rows : List (List Value)) (hl : IsSlice w l [some .i64] rows) (st : Int) (hst : (Lit.int .u8 st).wf = true) (hTab : Tab w) :
    Calls Tryd.prog 7 #[.int .u16 s, l, .int .u8 st] w fun e w' => e = .returned (.bool true) ∧ Below w.heap.size w w' := by
  obtain ⟨s0, s1⟩ := bounds_u16 hs
  obtain ⟨t0, t1⟩ := bounds_u8 hst
  obtain ⟨st, rfl⟩ := Int.eq_ofNat_of_zero_le t0
  clear hs hst t0
  obtain ⟨la, hA, hr1, hr2⟩ := ints_of_slice hl
  clear hl hr1 hr2
  obtain ⟨ao, cap, rfl⟩ := hA.shape
  obtain ⟨N, hN⟩ : ∃ n, la.length = n := ⟨_, rfl⟩
  have HA := Lib.hid (And.intro hA (And.intro hN hTab))
  rw [hN]
  clear hA hN hTab
  have awake : ∀ wr, Touch nob w wr → Calls Tryd.prog 15 #[] wr fun e w' => e = .returned (.bool true) ∧ Touch nob w w' := fun wr ht =>
    (law01_awake wr (HA.out.2.2.touch ht (fun x => x))).mono fun _ _ g => ⟨g.1, ht.trans g.2⟩
  have HW := Lib.hid awake
  clear awake
  obtain ⟨m, hm⟩ : ∃ m : Nat, s.tmod 300 = m := ⟨(s.tmod 300).toNat, by have := Int.tmod_nonneg 300 s0; omega⟩
  have hm5 : m < 300 := by have := Int.tmod_lt_of_pos s (show (0 : Int) < 300 by omega); omega
  by_cases h200 : N ≤ 100
  · go_enter Tryd.func7, Tryd.ntmps7
    go_wp2_with (go_at_call 16; fail)
    refine (bits_New_ok m (by omega) w).mono ?_
    rintro e w1 ⟨p, q, cap', ws, rfl, hT1, hp, hq, hS⟩
    have H0 : Hid (One w w1 p q cap' m ws (fun _ => false)) := ⟨hT1, hp, hq, hS⟩
    clear hT1 hp hq hS hm
    go_wp2_with fail
    go_loopw [10] (fun i wr => ∃ k : Nat, k ≤ N ∧ i = .int .i64 k ∧ Hid (∃ ws M, One w wr p q cap' m ws M)) (fun i _ => N - (intOf i).toNat)
    case atStart => exact ⟨0, by omega, rfl, _, _, H0.out⟩
    case round =>
      obtain ⟨k, hk, rfl, HP⟩ := hrel
      clear H0
      obtain ⟨ws, M, h0⟩ := HP.out
      clear HP
      by_cases hlt : k < N
      · obtain ⟨bl, ob, capx, hv, hcap, hcell⟩ := ((HA.out.1).old h0.touch).at (k := k) (by rw [HA.out.2.1]; exact hlt)
        rw [HA.out.2.1] at hv hcap
        injection hv with hv1 hv2 hv3
        subst hv1 hv3
        obtain ⟨x, hx⟩ : ∃ x, la.getD k 0 = x := ⟨_, rfl⟩
        rw [hx] at hcell
        have hbk : (k : Int) < (N : Int) := by omega
        clear hv2 hx
        have H := Lib.hid h0
        clear h0
        go_wp2_with (go_at_call 17; fail)
        refine (one_Put x true H.out).mono ?_
        rintro e w3 ⟨ws2, rfl, h2⟩
        have H2 := Lib.hid h2
        clear h2 hcell
        go_wp2
        go_roundw
        case rel => exact ⟨k + 1, by omega, by go_num, _, _, H2.out⟩
        case measure => simp [intOf]; omega
      · have H := Lib.hid h0
        clear h0
        go_wp2_with (go_at_call 38; fail)
        refine (set_Copy H.out.set).mono ?_
        rintro e w2 ⟨p', q', cap2, rfl, hT2, hp2, hq2, hS2⟩
        have H2 := Lib.hid (two_of_copy H.out hT2 hp2 hq2 hS2)
        clear hT2 hp2 hq2 hS2 H
        go_wp2_with (go_at_call 19; fail)
        refine (set_Same H2.out.left H2.out.right).mono ?_
        rintro e w3 ⟨rfl, hT3⟩
        rw [sameB_refl]
        have H3 := Lib.hid (H2.out.step hT3)
        clear H2 hT3
        go_wp2_with (go_at_call 26; fail)
        refine (set_Size H3.out.right).mono ?_
        rintro e w4 ⟨rfl, rfl⟩
        go_wp2_with (go_at_call 27; fail)
        refine (set_Count H3.out.right).mono ?_
        rintro e w4 ⟨rfl, rfl⟩
        obtain ⟨c, hc⟩ : ∃ c, cnt M m = c := ⟨_, rfl⟩
        have hcm : c ≤ m := by rw [← hc]; exact cnt_le M m
        have HC := Lib.hid hc
        rw [hc]
        clear hc
        go_wp2_with (go_at_call 29; fail)
        refine (law01_list st H3.out.right (HA.out.2.2.touch H3.out.touch (fun x => x))).mono ?_
        rintro e w4 ⟨v4, rfl, hT4, hI4⟩
        obtain ⟨ao4, cap4, hv4⟩ := hI4.shape
        rw [List.length_map, List.length_take, elems_len, HC.out] at hv4
        subst hv4
        have hmin : (if (st : Int) < (c : Int) then (st : Int) else (c : Int)) = ((min st c : Nat) : Int) := by
          split <;> omega
        have hmin2 : (if (c : Int) < (st : Int) then (c : Int) else (st : Int)) = ((min st c : Nat) : Int) := by
          split <;> omega
        obtain ⟨mn, hmn⟩ : ∃ mn, min st c = mn := ⟨_, rfl⟩
        rw [hmn] at hmin hmin2 ⊢
        have H4 := Lib.hid (H3.out.step hT4)
        clear hT4 hI4 H3 hmn
        go_wp2_with (go_at_call 39; fail)
        all_goals
          refine (two_FillT H4.out).mono ?_
          rintro e w5 ⟨v5, ws5, A5, rfl, hT5, hA5⟩
          have H5 := Lib.hid (And.intro hT5 hA5)
          clear hT5 hA5 H4 hmin hmin2
          go_wp2_with (go_at_call 27; fail)
          refine (set_Count H5.out.1.left).mono ?_
          rintro e w6 ⟨rfl, rfl⟩
          rw [cnt_full.2 H5.out.2]
          go_wp2_with (go_at_call 27; fail)
          refine (set_Count H5.out.1.right).mono ?_
          rintro e w6 ⟨rfl, rfl⟩
          rw [HC.out]
          go_wp2_with (go_at_call 19; fail)
          refine (set_Same H5.out.1.left H5.out.1.right).mono ?_
          rintro e w6 ⟨rfl, hT6⟩
          rw [show sameB ws5 ws m m = ((c : Int) == (m : Int)) by
            rw [same_cnt H5.out.1 true H5.out.2]
            apply Bool.eq_iff_iff.2
            rw [decide_eq_true_eq, ← cnt_full, HC.out]
            simp; omega]
          have H6 := Lib.hid (H5.out.1.step hT6)
          clear hT6 H5
          go_wp2_with (go_at_call 39; fail)
          refine (two_FillF H6.out HA.out.2.2).mono ?_
          rintro e w7 ⟨v7, ws7, A7, rfl, hT7, hA7⟩
          have H7 := Lib.hid (And.intro hT7 hA7)
          clear hT7 hA7 H6
          go_wp2_with (go_at_call 27; fail)
          refine (set_Count H7.out.1.left).mono ?_
          rintro e w6 ⟨rfl, rfl⟩
          rw [cnt_zero.2 H7.out.2]
          go_wp2_with (go_at_call 27; fail)
          refine (set_Count H7.out.1.right).mono ?_
          rintro e w6 ⟨rfl, rfl⟩
          rw [HC.out]
          go_wp2_with (go_at_call 19; fail)
          refine (set_Same H7.out.1.left H7.out.1.right).mono ?_
          rintro e w8 ⟨rfl, hT8⟩
          rw [show sameB ws7 ws m m = ((c : Int) == 0) by
            rw [same_cnt H7.out.1 false H7.out.2]
            apply Bool.eq_iff_iff.2
            rw [decide_eq_true_eq, ← cnt_zero, HC.out]
            simp]
          have H8 := Lib.hid (H7.out.1.step hT8)
          clear hT8 H7
          go_wp2_with (go_at_call 15; fail)
          refine (HW.out _ H8.out.touch).mono ?_
          rintro e w6 ⟨rfl, hT6⟩
          go_wp2
          go_ret
          exact ⟨rfl, hT6.below⟩
  · go_enter Tryd.func7, Tryd.ntmps7
    go_wp2_with (go_at_call 15; fail)
    refine (HW.out _ (by repeat (first | with_reducible exact Touch.refl _ _ | with_reducible assumption | with_reducible apply Touch.alloc | with_reducible apply Touch.drewN | with_reducible apply Touch.drew | with_reducible refine Touch.setCell ?_ (.inr (by first | omega | (simp; done) | (simp; omega))) _))).mono ?_
    rintro e w1 ⟨rfl, hT⟩
    go_wp2
    go_ret
    exact ⟨rfl, hT.below⟩
end Go.Proofs.YtjbmpdibjfcafaaDoor
