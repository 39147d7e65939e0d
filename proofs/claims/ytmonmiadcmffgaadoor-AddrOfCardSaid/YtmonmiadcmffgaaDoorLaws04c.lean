/- The law of the address of any place, walked. Conditions: the tables of limits and of sizes read as laid. -/
import Derived.Test.YtmonmiadcmffgaaDoorLaws04
import Derived.Test.YtmonmiadcmffgaaDoorSlots
import Derived.Test.YtmonmiadcmffgaaDoorSame
import Derived.Deep.AppendLies
namespace Go.Proofs.YtmonmiadcmffgaaDoor
open Go.RowKit

theorem slots_in {c0 c1 c2 c3 c4 c5 c6 k b : Int} {N : Nat} (hc : cfgOk c0 c1 c2 c3 c4 c5 c6 = true) (b0 : 0 ≤ b) (b1 : b < c0) (hN : perBlock c1 k = N) :
    slL c0 c1 c2 c3 c4 c5 c6 k b (List.range N) = (List.range N).map (slA c0 c1 c2 c3 c4 c5 c6 k b) := by
  unfold slL
  rw [List.filter_eq_self.2]
  intro a ha
  obtain ⟨i, hi, rfl⟩ := List.mem_map.1 ha
  have hi := List.mem_range.1 hi
  have hk : isCls k = true := by
    cases hk : isCls k
    · unfold perBlock at hN
      rw [hk] at hN
      simp at hN
      omega
    · rfl
  have z0 := clsSize_lo hk
  have h := plOk_iff.2 ⟨hc, hk, ⟨b0, b1⟩, ⟨(by omega : (0 : Int) ≤ i), (by omega : (i : Int) < perBlock c1 k)⟩, Int.le_refl 0, (by omega : (0 : Int) < clsSize k)⟩
  obtain ⟨⟨m0, m1⟩, ⟨m2, m3⟩, m4⟩ := pl_bd h
  unfold slA
  rw [h]
  have : 0 < plA c1 k b i 0 := by unfold plA; omega
  exact decide_eq_true this
theorem slots_out {c0 c1 c2 c3 c4 c5 c6 k b : Int} (l : List Nat) (h : cfgOk c0 c1 c2 c3 c4 c5 c6 = false ∨ b < 0 ∨ c0 ≤ b) : slL c0 c1 c2 c3 c4 c5 c6 k b l = [] := by
  unfold slL
  rw [List.filter_eq_nil_iff]
  intro a ha
  obtain ⟨i, _, rfl⟩ := List.mem_map.1 ha
  have : plOk c0 c1 c2 c3 c4 c5 c6 k b i 0 = false := by
    cases hh : plOk c0 c1 c2 c3 c4 c5 c6 k b i 0
    · rfl
    · obtain ⟨h1, h2, ⟨h3, h4⟩, _⟩ := plOk_iff.1 hh
      rcases h with h | h | h
      · rw [h1] at h; cases h
      · omega
      · omega
  unfold slA
  rw [this]
  simp [ifB]
theorem ints_nil (w : World) : IntsIn w (.slice none 0 0) [] := ⟨none, 0, rfl, .inl rfl⟩
theorem per_nat (x k : Int) : ∃ N : Nat, perBlock x k = N ∧ N ≤ 128 := by
  have : 0 ≤ perBlock x k ∧ perBlock x k ≤ 128 := by
    unfold perBlock
    split
    · rename_i hh
      simp only [Bool.and_eq_true, wordsOk, decide_eq_true_eq] at hh
      have := per_bd x (clsSize k) (by omega) (by omega) (clsSize_lo hh.1) (clsSize_bd k).2
      exact ⟨this.1, this.2.1⟩
    · omega
  exact ⟨(perBlock x k).toNat, by omega, by omega⟩

set_option maxHeartbeats 4000000 in
theorem law_AddrOf (c0 : Int) (_ : (Lit.int .i64 c0).wf = true) (c1 : Int) (_ : (Lit.int .i64 c1).wf = true) (c2 : Int) (_ : (Lit.int .i64 c2).wf = true) (c3 : Int) (_ : (Lit.int .i64 c3).wf = true) (c4 : Int) (_ : (Lit.int .i64 c4).wf = true) (c5 : Int) (_ : (Lit.int .i64 c5).wf = true) (c6 : Int) (_ : (Lit.int .i64 c6).wf = true) (k : Int) (_ : (Lit.int .i64 k).wf = true) (b : Int) (_ : (Lit.int .i64 b).wf = true) (s : Int) (_ : (Lit.int .i64 s).wf = true) (x : Int) (_ : (Lit.int .i64 x).wf = true) (w : World) (hLim : Limits w) (hS : Sizes w) :
    Calls Tryd.prog 15 #[CfgV c0 c1 c2 c3 c4 c5 c6, .int .i64 k, PlV b s x] w fun e w' => e = .returned (.bool true) ∧ Below w.heap.size w w' := by
  have HL0 := Lib.hid hLim
  have HZ0 := Lib.hid hS
  clear hLim hS
  go_enter Tryd.func15, Tryd.ntmps15
  go_wp2_with fail
  obtain ⟨W, hW⟩ : ∃ W, W = (w.alloc (Obj.cells (CfgRow c0 c1 c2 c3 c4 c5 c6) 32)).alloc (Obj.cells #[.int .i64 b, .int .i64 s, .int .i64 x] 51) := ⟨_, rfl⟩
  obtain ⟨n, hn⟩ : ∃ n, n = w.heap.size := ⟨_, rfl⟩
  rw [← hW, ← hn]
  have hr : W.heap[n]? = some (Obj.cells (CfgRow c0 c1 c2 c3 c4 c5 c6) 32) := by rw [hW, hn]; exact (alloc2_0 w _ _).trans rfl
  have hr2 : W.heap[n + 1]? = some (Obj.cells #[.int .i64 b, .int .i64 s, .int .i64 x] 51) := by rw [hW, hn]; exact alloc2_1 w _ _
  have HT : Hid (Touch nob w W) := by show Touch nob w W; rw [hW]; exact ((Touch.refl _ _).alloc _).alloc _
  have HLS := Lib.hid (fun w' (ht : Touch nob W w') => And.intro (HL0.out.touch (HT.out.trans ht) (fun x => x)) (HZ0.out.touch (HT.out.trans ht) (fun x => x)))
  have HB := Lib.hid (fun w' ht => cfg_box hr (w' := w') ht)
  have HP := Lib.hid (fun w' (ht : Touch nob W w') => box3 (blk_touch hr2 ht (fun x => x)))
  obtain ⟨k0, k1, k2, k3, k4, k5, k6⟩ := HB.out _ (Touch.refl nob W)
  obtain ⟨p0, p1, p2, _, _, _⟩ := HP.out _ (Touch.refl nob W)
  clear hW hn hr hr2 HL0 HZ0
  refine (addr_Of c0 c1 c2 c3 c4 c5 c6 k b s x W (HLS.out _ (Touch.refl _ _)).1 (HLS.out _ (Touch.refl _ _)).2).mono ?_
  rintro e w1 ⟨rfl, hb1⟩
  have hpos : decide (0 < ifB (plOk c0 c1 c2 c3 c4 c5 c6 k b s x) (plA c1 k b s x)) = plOk c0 c1 c2 c3 c4 c5 c6 k b s x := by
    cases hh : plOk c0 c1 c2 c3 c4 c5 c6 k b s x
    · rfl
    · obtain ⟨⟨m0, m1⟩, ⟨m2, m3⟩, m4⟩ := pl_bd hh
      have x0 := (plOk_iff.1 hh).2.2.2.2.1
      have : 0 < plA c1 k b s x := by unfold plA; omega
      exact decide_eq_true this
  obtain ⟨A, hA⟩ : ∃ A, ifB (plOk c0 c1 c2 c3 c4 c5 c6 k b s x) (plA c1 k b s x) = A := ⟨_, rfl⟩
  obtain ⟨O, hO⟩ : ∃ O, plOk c0 c1 c2 c3 c4 c5 c6 k b s x = O := ⟨_, rfl⟩
  obtain ⟨A0, hA0⟩ : ∃ A, ifB (plOk c0 c1 c2 c3 c4 c5 c6 k b s 0) (plA c1 k b s 0) = A := ⟨_, rfl⟩
  rw [hA, hO] at hpos
  rw [hA, hO]
  have HO := Lib.hid (And.intro hA hA0)
  clear hA hA0 hO
  have hT1 : Touch nob W w1 := Touch.of_below hb1
  clear hb1 k0 k1 k2 k3 k4 k5 k6 p0 p1 p2
  obtain ⟨k0, k1, k2, k3, k4, k5, k6⟩ := HB.out _ hT1
  obtain ⟨p0, p1, p2, _, _, _⟩ := HP.out _ hT1
  go_wp2_with (go_at_call 55; fail)
  refine (ref04_Of c0 c1 c2 c3 c4 c5 c6 k b s x w1).mono ?_
  rintro e w2 ⟨rfl, hb2⟩
  rw [HO.out.1]
  have hT2 := hT1.trans (Touch.of_below hb2)
  clear hb2 k0 k1 k2 k3 k4 k5 k6 p0 p1 p2
  obtain ⟨k0, k1, k2, k3, k4, k5, k6⟩ := HB.out _ hT2
  obtain ⟨p0, p1, p2, _, _, _⟩ := HP.out _ hT2
  go_wp2_with (go_at_call 55; fail)
  refine (ref04_Of c0 c1 c2 c3 c4 c5 c6 k b s 0 w2).mono ?_
  rintro e w3 ⟨rfl, hb3⟩
  rw [HO.out.2]
  have hT3 := hT2.trans (Touch.of_below hb3)
  clear hb3 hT1 hT2 k0 k1 k2 k3 k4 k5 k6 p0 p1 p2
  obtain ⟨k0, k1, k2, k3, k4, k5, k6⟩ := HB.out _ hT3
  obtain ⟨p0, p1, p2, _, _, _⟩ := HP.out _ hT3
  go_wp2_with (go_at_call 50; fail)
  refine (addr_Slot c0 c1 c2 c3 c4 c5 c6 k b s w3 (HLS.out _ hT3).1 (HLS.out _ hT3).2).mono ?_
  rintro e w4 ⟨rfl, hb4⟩
  rw [HO.out.2]
  have hT4 := hT3.trans (Touch.of_below hb4)
  clear hb4 hT3 k0 k1 k2 k3 k4 k5 k6 p0 p1 p2
  obtain ⟨k0, k1, k2, k3, k4, k5, k6⟩ := HB.out _ hT4
  obtain ⟨p0, p1, p2, _, _, _⟩ := HP.out _ hT4
  clear hpos
  go_wp2_with (go_at_call 26; fail)
  refine (ref02_Right c0 c1 c2 c3 c4 c5 c6 w4).mono ?_
  rintro e w5 ⟨rfl, hb5⟩
  have hT5 := hT4.trans (Touch.of_below hb5)
  clear hb5 hT4 k0 k1 k2 k3 k4 k5 k6 p0 p1 p2
  obtain ⟨k0, k1, k2, k3, k4, k5, k6⟩ := HB.out _ hT5
  obtain ⟨p0, p1, p2, _, _, _⟩ := HP.out _ hT5
  obtain ⟨N, hN, hN128⟩ := per_nat c1 k
  have HN := Lib.hid (And.intro hN hN128)
  clear hN hN128
  cases hc : cfgOk c0 c1 c2 c3 c4 c5 c6
  · have HC := Lib.hid hc
    clear hc
    go_wp2_with (go_at_call 57; fail)
    refine (addr_Slots c0 c1 c2 c3 c4 c5 c6 k b _ (HLS.out _ hT5).1 (HLS.out _ hT5).2 N HN.out.1).mono ?_
    rintro e w8 ⟨v8, rfl, hT8, hI8⟩
    rw [slots_out _ (.inl HC.out)] at hI8
    have H8 := Lib.hid (And.intro (hT5.trans hT8) (And.intro hI8 (ints_nil w8)))
    clear hT8 hI8 hT5 k0 k1 k2 k3 k4 k5 k6 p0 p1 p2
    go_wp2_with (go_at_call 56; fail)
    refine (ref01_Same _ _ _ w8 H8.out.2.1 H8.out.2.2 (by first | (simp; done) | (simp; have := HN.out.2; omega))).mono ?_
    rintro e w9 ⟨rfl, hT9⟩
    have H9 := Lib.hid (H8.out.1.trans hT9)
    clear hT9
    go_wp2_with (go_at_call 48; fail)
    refine (law04_awake w9 (HLS.out _ H9.out).1 (HLS.out _ H9.out).2).mono ?_
    rintro e w10 ⟨rfl, hb10⟩
    have H10 := Lib.hid (HT.out.trans (H9.out.trans (Touch.of_below hb10)))
    clear hb10
    go_wp2
    go_ret
    exact ⟨rfl, H10.out.below⟩
  · have HC := Lib.hid hc
    clear hc
    by_cases hb0 : b < 0
    · go_wp2_with (go_at_call 57; fail)
      refine (addr_Slots c0 c1 c2 c3 c4 c5 c6 k b _ (HLS.out _ hT5).1 (HLS.out _ hT5).2 N HN.out.1).mono ?_
      rintro e w8 ⟨v8, rfl, hT8, hI8⟩
      rw [slots_out _ (.inr (.inl hb0))] at hI8
      have H8 := Lib.hid (And.intro (hT5.trans hT8) (And.intro hI8 (ints_nil w8)))
      clear hT8 hI8 hT5 k0 k1 k2 k3 k4 k5 k6 p0 p1 p2
      go_wp2_with (go_at_call 56; fail)
      refine (ref01_Same _ _ _ w8 H8.out.2.1 H8.out.2.2 (by first | (simp; done) | (simp; have := HN.out.2; omega))).mono ?_
      rintro e w9 ⟨rfl, hT9⟩
      have H9 := Lib.hid (H8.out.1.trans hT9)
      clear hT9
      go_wp2_with (go_at_call 48; fail)
      refine (law04_awake w9 (HLS.out _ H9.out).1 (HLS.out _ H9.out).2).mono ?_
      rintro e w10 ⟨rfl, hb10⟩
      have H10 := Lib.hid (HT.out.trans (H9.out.trans (Touch.of_below hb10)))
      clear hb10
      go_wp2
      go_ret
      exact ⟨rfl, H10.out.below⟩
    · by_cases hb1 : c0 ≤ b
      · go_wp2_with (go_at_call 57; fail)
        refine (addr_Slots c0 c1 c2 c3 c4 c5 c6 k b _ (HLS.out _ hT5).1 (HLS.out _ hT5).2 N HN.out.1).mono ?_
        rintro e w8 ⟨v8, rfl, hT8, hI8⟩
        rw [slots_out _ (.inr (.inr hb1))] at hI8
        have H8 := Lib.hid (And.intro (hT5.trans hT8) (And.intro hI8 (ints_nil w8)))
        clear hT8 hI8 hT5 k0 k1 k2 k3 k4 k5 k6 p0 p1 p2
        go_wp2_with (go_at_call 56; fail)
        refine (ref01_Same _ _ _ w8 H8.out.2.1 H8.out.2.2 (by first | (simp; done) | (simp; have := HN.out.2; omega))).mono ?_
        rintro e w9 ⟨rfl, hT9⟩
        have H9 := Lib.hid (H8.out.1.trans hT9)
        clear hT9
        go_wp2_with (go_at_call 48; fail)
        refine (law04_awake w9 (HLS.out _ H9.out).1 (HLS.out _ H9.out).2).mono ?_
        rintro e w10 ⟨rfl, hb10⟩
        have H10 := Lib.hid (HT.out.trans (H9.out.trans (Touch.of_below hb10)))
        clear hb10
        go_wp2
        go_ret
        exact ⟨rfl, H10.out.below⟩
      · have HBB : Hid (0 ≤ b ∧ b < c0) := by show _ ∧ _; omega
        obtain ⟨i0, hi, hz0, hz1, hz2⟩ := info_parts info_int2
        have hb2 : 0 ≤ b := by omega
        have hb3 : b < c0 := by omega
        clear hb0 hb1
        go_wp2_with fail
        clear k0 k1 k2 k3 k4 k5 k6 p0 p1 p2
        have HT5 := Lib.hid hT5
        clear hT5
        go_loopw [11, 12] (fun v i wr => ∃ j : Nat, j ≤ N ∧ i = .int .i64 j ∧ Hid (Touch nob W wr) ∧ Hid (wr.ownsRow W.heap.size 3 1 v j (((List.range j).map (slA c0 c1 c2 c3 c4 c5 c6 k b)).map (.int .i64)))) (fun _ i _ => N - (intOf i).toNat)
        case atStart => exact ⟨0, Nat.zero_le _, rfl, HT5.out, World.ownsRow_nil _ _ _ _⟩
        case round =>
          obtain ⟨j, hj, rfl, HTr, HOr⟩ := hrel
          clear HT5
          obtain ⟨ao, capv, rfl⟩ := own_shape HOr.out
          obtain ⟨k0, k1, k2, k3, k4, k5, k6⟩ := HB.out _ HTr.out
          obtain ⟨p0, p1, p2, _, _, _⟩ := HP.out _ HTr.out
          have hN128 : N ≤ 128 := HN.out.2
          go_wp2_with (go_at_call 37; fail)
          · refine (ref03_Per c1 k wr).mono ?_
            rintro e w6 ⟨rfl, rfl⟩
            rw [HN.out.1]
            by_cases hjN : j < N
            · have hbj : (j : Int) < (N : Int) := by omega
              go_wp2_with (go_at_call 55; fail)
              refine (ref04_Of c0 c1 c2 c3 c4 c5 c6 k b j 0 wr).mono ?_
              rintro e w6 ⟨rfl, hb6⟩
              rw [show ifB (plOk c0 c1 c2 c3 c4 c5 c6 k b (j : Int) 0) (plA c1 k b (j : Int) 0) = slA c0 c1 c2 c3 c4 c5 c6 k b j from rfl]
              have hT6 : Touch nob wr w6 := Touch.of_below hb6
              have HO6 : Hid (w6.ownsRow W.heap.size 3 1 (.slice ao j capv) j (((List.range j).map (slA c0 c1 c2 c3 c4 c5 c6 k b)).map (.int .i64))) := owns_at HOr.out (fun g hg hl => hT6.block g hl (fun x => x))
              have HT6 := Lib.hid (HTr.out.trans hT6)
              have HS6 : Hid (W.heap.size ≤ w6.heap.size) := HT6.out.size
              have HSS : Hid ((List.range (j + 1)).map (slA c0 c1 c2 c3 c4 c5 c6 k b) = (List.range j).map (slA c0 c1 c2 c3 c4 c5 c6 k b) ++ [slA c0 c1 c2 c3 c4 c5 c6 k b j]) := by show _ = _; rw [List.range_succ]; simp
              obtain ⟨a, ha⟩ : ∃ a, slA c0 c1 c2 c3 c4 c5 c6 k b j = a := ⟨_, rfl⟩
              rw [ha] at HSS ⊢
              clear hb6 hT6 HOr HTr k0 k1 k2 k3 k4 k5 k6 p0 p1 p2 ha
              go_wp2_with (at_builtin; refine wpList_append_own _ rfl _ _ 67 rfl W.heap.size 3 i0 (.int .i64 0) 1 8 Tryd.underlying67 hi hz0 hz1 hz2 rfl (by decide) _ j _ rfl (HO6.out.alloc _) ⟨w6.heap.size, 0, none⟩ 1 1 [.int .i64 a] rfl rfl (World.news_of_block (World.alloc_heap_new _ _)) (ints_oneCell _ [a]) (by unfold maxLen; omega) (by omega) (by have := HS6.out; simp; omega) ?_; intro v3 w7 hown hgrow _; have HW3 := Lib.hid (And.intro hown hgrow); clear hown hgrow)
              go_roundw
              case rel =>
                refine ⟨j + 1, by omega, by go_num, ?_, ?_⟩
                · exact Touch.grown (HT6.out.alloc _) HW3.out.2 (fun g hg => .inr (HO6.out.lt g hg).1)
                · show World.ownsRow _ _ _ _ _ _ _
                  rw [HSS.out, List.map_append]
                  exact HW3.out.1
              case measure => simp [intOf]; omega
            · obtain rfl : j = N := by omega
              have hT6 := HTr.out
              go_wp2_with (go_at_call 57; fail)
              refine (addr_Slots c0 c1 c2 c3 c4 c5 c6 k b _ (HLS.out _ hT6).1 (HLS.out _ hT6).2 j HN.out.1).mono ?_
              rintro e w8 ⟨v8, rfl, hT8, hI8⟩
              rw [slots_in HC.out HBB.out.1 HBB.out.2 HN.out.1] at hI8
              have H8 := Lib.hid (And.intro (hT6.trans hT8) (And.intro hI8 (((ints_of_ownZ HOr.out).old hT8))))
              clear hT8 hI8 hT6 k0 k1 k2 k3 k4 k5 k6 p0 p1 p2
              go_wp2_with (go_at_call 56; fail)
              refine (ref01_Same _ _ _ w8 H8.out.2.1 H8.out.2.2 (by first | (simp; done) | (simp; have := HN.out.2; omega))).mono ?_
              rintro e w9 ⟨rfl, hT9⟩
              have H9 := Lib.hid (H8.out.1.trans hT9)
              clear hT9
              go_wp2_with (go_at_call 48; fail)
              refine (law04_awake w9 (HLS.out _ H9.out).1 (HLS.out _ H9.out).2).mono ?_
              rintro e w10 ⟨rfl, hb10⟩
              have H10 := Lib.hid (HT.out.trans (H9.out.trans (Touch.of_below hb10)))
              clear hb10
              go_wp2
              go_ret
              exact ⟨rfl, H10.out.below⟩
end Go.Proofs.YtmonmiadcmffgaaDoor
