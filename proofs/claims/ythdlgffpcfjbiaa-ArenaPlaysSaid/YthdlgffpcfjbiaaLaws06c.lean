/- The arena's law Plays, walked. Conditions: none. -/
import Derived.Test.YthdlgffpcfjbiaaLaws06
namespace Go.Proofs.Ythdlgffpcfjbiaa
open Go.RowKit

theorem atE_zero (n : Nat) : atE n 0 = 6 := rfl
theorem atE_out {n : Nat} {a : Int} (h : a < 0 ∨ (n : Int) < a) : atE n a = 4 := by
  unfold atE; rw [if_neg (by omega), if_pos h]

theorem RowAt.int {w : World} {q : Nat} {e : TypeId} {cap : Nat} {k : IntKind} {xs : List Int} (h : RowAt w q e cap (xs.map (.int k))) {j : Nat} (hj : j < xs.length) : w.cell? ⟨q, j, none⟩ = some (.int k (xs.getD j 0)) := by
  rw [h.cell (j := j) (by simpa using hj)]
  simp [List.getD_eq_getElem?_getD, hj]
theorem arena_Store_any (p q cap : Nat) (ws : List Int) (lo st a x : Int) (w : World) (h : ArenaAt w p q cap ws lo st) :
    Calls Try.prog 15 #[.pointer (some ⟨p, 0, none⟩), .int .i64 a, .int .u64 x] w fun e w' => (∃ f, e = .returned (.int .i64 f)) ∧ Touch (fun b => b = p ∨ b = q) w w' := by
  by_cases ha : 1 ≤ a ∧ a ≤ ws.length
  · exact (arena_Store_at p q cap ws lo st a x (a - 1).toNat w h (by omega) (by omega)).mono fun e w' hh => ⟨⟨_, hh.1⟩, hh.2.1⟩
  · exact (arena_Store_no p q cap ws lo st a x w h (by omega)).mono fun e w' hh => ⟨⟨_, hh.1⟩, hh.2.mono (fun _ _ h => h.elim)⟩

set_option maxRecDepth 10000 in
set_option maxHeartbeats 2000000 in
theorem law_ArenaPlays {w : World} (s : Int) (hs : (Lit.int .u8 s).wf = true) (l : Value) (rows : List (List Value)) (hl : IsSlice w l [some .i64, some .u64, none] rows) (ma : Int) (_ : (Lit.int .i64 ma).wf = true) (mx : Int) (_ : (Lit.int .u64 mx).wf = true) (ms : Bool) :
    Calls Try.prog 10 #[.int .u8 s, l, .agg #[.int .i64 ma, .int .u64 mx, .bool ms]] w fun e w' => e = .returned (.bool true) ∧ Below w.heap.size w w' := by
  obtain ⟨s0, s1⟩ := bounds_u8 hs
  clear hs
  obtain ⟨n, hI, _⟩ := rows_of_slice hl (by simp)
  clear hl
  obtain ⟨ao, cap, rfl, hI⟩ := hI
  have HI := Lib.hid hI
  clear hI
  by_cases h200 : 200 < n
  · go_enter Try.func10, Try.ntmps10
    go_wp2_with (go_at_call 17; fail)
    refine (law06_awake _).mono ?_
    rintro e w4 ⟨rfl, hT4⟩
    go_wp2
    go_ret
    exact ⟨rfl, (((Touch.refl nob w).alloc _).trans hT4).below⟩
  obtain ⟨m, hm⟩ : ∃ m : Nat, s.tmod 60 = m := ⟨(s.tmod 60).toNat, by have := Int.tmod_nonneg 60 s0; omega⟩
  have hm60 : m < 60 := by have := Int.tmod_lt_of_pos s (show (0 : Int) < 60 by omega); omega
  go_enter Try.func10, Try.ntmps10
  go_wp2_with (go_at_call 14; fail)
  clear hm
  obtain ⟨W, hW⟩ : ∃ W, W = w.alloc (Obj.cells #[.int .i64 ma, .int .u64 mx, .bool ms] 61) := ⟨_, rfl⟩
  obtain ⟨B, hB⟩ : ∃ B, B = w.heap.size := ⟨_, rfl⟩
  rw [← hW, ← hB]
  have hTW : Touch nob w W := by rw [hW]; repeat (first | with_reducible exact Touch.refl _ _ | with_reducible assumption | with_reducible apply Touch.alloc | with_reducible apply Touch.drewN | with_reducible apply Touch.drew | with_reducible refine Touch.setCell ?_ (.inr (by first | omega | (simp; done) | (simp; omega))) _)
  have hMore : W.heap[B]? = some (Obj.cells #[.int .i64 ma, .int .u64 mx, .bool ms] 61) := by rw [hW, hB]; exact World.alloc_heap_new w _
  have HW : Hid (Touch nob w W ∧ B = w.heap.size ∧ W.heap[B]? = some (Obj.cells #[.int .i64 ma, .int .u64 mx, .bool ms] 61)) := ⟨hTW, hB, hMore⟩
  clear hTW hB hMore hW
  refine (arena_New_at _ (1 + m) (by omega) (by omega) (by omega) _).mono ?_
  rintro e w1 ⟨p, q, rfl, hT1, hp, hq, hA⟩
  go_wp2_with (go_at_call 39; fail)
  refine (arena_Len p q _ _ _ _ _ hA).mono ?_
  rintro e w' ⟨rfl, rfl⟩
  rw [List.length_replicate]
  obtain ⟨i0, hi, hz0, hz1, hz2⟩ := info_parts info_u64
  have hpw := blk_lt hA.box
  have hqw := hA.row.lt
  go_wp2_with (at_make; refine wpList_make_full _ rfl _ _ 56 rfl w1.heap.size 23 i0 (.int .u64 0) 1 Try.underlying56 hi hz0 hz1 .i64 .i64 _ _ (1 + m) rfl rfl (by omega) (by omega) (by rw [hz2]; omega) (by unfold maxLen; omega) (Nat.le_refl _) ?_; intro w2 hown hgrow; have HX := Lib.hid (And.intro hown hgrow); clear hown hgrow)
  obtain ⟨hown, hgrow⟩ := HX.out
  clear HX
  rw [made_u64] at hown
  obtain ⟨hR, _, _⟩ := RowAt.of_owns hown
  have hT12 : Touch nob w1 w2 := (Touch.refl nob w1).grown hgrow (fun _ h => by cases h)
  have hT2 : Touch nob W w2 := hT1.trans hT12
  have hA2 := hA.touch hT12 (fun x => x) (fun x => x)
  obtain ⟨g, hg⟩ : ∃ g, w1.heap.size = g := ⟨_, rfl⟩
  rw [hg] at hR hpw hqw ⊢
  clear hA hT1 hT12 hown hgrow hi hz0 hz1 hz2 hg
  have hWg : W.heap.size ≤ g := by omega
  go_loopw [11, 12, 13] (fun lo st i wr => ∃ k : Nat, ∃ L S : Nat, ∃ ws, k ≤ n ∧ L ≤ k ∧ S ≤ k ∧ i = .int .i64 k ∧ lo = .int .i64 L ∧ st = .int .i64 S ∧ Touch nob W wr ∧ ArenaAt wr p q (1 + m) ws L S ∧ ws.length = 1 + m ∧ RowAt wr g 23 (1 + m) (ws.map (.int .u64))) (fun _ _ i _ => n - (intOf i).toNat)
  case atStart => exact ⟨0, 0, 0, _, by omega, by omega, by omega, rfl, rfl, rfl, hT2, hA2, by simp, hR⟩
  case round =>
    obtain ⟨k, L, S, ws, hk, hL, hS, rfl, rfl, rfl, hTr, hAr, hlen, hRr⟩ := hrel
    clear hT2 hA2 hR
    have HLEN := Lib.hid hlen
    clear hlen
    by_cases hlt : k < n
    · obtain ⟨b, o, hao, hcap, hmx, hcells⟩ := HI.out.resolve_left (by omega)
      subst hao
      obtain ⟨r, hfit, hcx⟩ := hcells k hlt
      obtain ⟨a, us1, rfl, _, hf1⟩ := fits_int hfit
      obtain ⟨x, us2, rfl, _, hf2⟩ := fits_int hf1
      obtain ⟨t, us3, rfl, hf3⟩ := fits_bool hf2
      obtain rfl := fits_nil hf3
      have y0 := hcx 0 (by simp)
      have y1 := hcx 1 (by simp)
      have y2 := hcx 2 (by simp)
      simp only [List.length_cons, List.length_nil, Nat.zero_add, Nat.reduceAdd, Nat.add_zero, List.getElem?_cons_zero, List.getElem?_cons_succ, ← Nat.add_assoc] at y0 y1 y2
      have z0 := ((HW.out.1.trans hTr).cell (cell_lt y0) (fun x => x)).trans y0
      have z1 := ((HW.out.1.trans hTr).cell (cell_lt y1) (fun x => x)).trans y1
      have z2 := ((HW.out.1.trans hTr).cell (cell_lt y2) (fun x => x)).trans y2
      clear hcx hcells y0 y1 y2 hfit hf1 hf2 hf3
      have hpr := blk_lt hAr.box
      have hqr := hAr.row.lt
      have hgr := hRr.lt
      have hne := hAr.ne
      have hpg : ¬ g = p := by omega
      have hqg : ¬ g = q := by omega
      cases t
      · rcases (show a = 0 ∨ a < 0 ∨ ((1 + m : Nat) : Int) < a ∨ (1 ≤ a ∧ a ≤ 1 + m) by omega) with rfl | h0 | h0 | h0
        · clear HI
          go_wp2_with (go_at_call 16; fail)
          refine (arena_Load_no p q _ _ _ _ _ _ (hAr.touch (S := nob) (by repeat (first | with_reducible exact Touch.refl _ _ | with_reducible assumption | with_reducible apply Touch.alloc | with_reducible apply Touch.drewN | with_reducible apply Touch.drew | with_reducible refine Touch.setCell ?_ (.inr (by first | omega | (simp; done) | (simp; omega))) _)) (fun x => x) (fun x => x)) (by rw [HLEN.out]; omega)).mono ?_
          rintro e w3 ⟨rfl, hT3⟩
          rw [atE_zero]
          have hTs : Touch nob wr w3 := Touch.trans (by repeat (first | with_reducible exact Touch.refl _ _ | with_reducible assumption | with_reducible apply Touch.alloc | with_reducible apply Touch.drewN | with_reducible apply Touch.drew | with_reducible refine Touch.setCell ?_ (.inr (by first | omega | (simp; done) | (simp; omega))) _)) hT3
          obtain ⟨q0, q1, q2, _⟩ := box3 (blk_touch (World.alloc_heap_new wr _) hT3 (fun x => x))
          clear z0 z1 z2
          go_wp2
          go_roundw
          case rel => exact ⟨k + 1, L, S, ws, by omega, by omega, by omega, by go_num, by go_num, by go_num, hTr.trans hTs, hAr.touch hTs (fun x => x) (fun x => x), HLEN.out, hRr.touch hTs (fun x => x)⟩
          case measure => simp [intOf]; omega
        · clear HI
          go_wp2_with (go_at_call 16; fail)
          refine (arena_Load_no p q _ _ _ _ _ _ (hAr.touch (S := nob) (by repeat (first | with_reducible exact Touch.refl _ _ | with_reducible assumption | with_reducible apply Touch.alloc | with_reducible apply Touch.drewN | with_reducible apply Touch.drew | with_reducible refine Touch.setCell ?_ (.inr (by first | omega | (simp; done) | (simp; omega))) _)) (fun x => x) (fun x => x)) (by rw [HLEN.out]; omega)).mono ?_
          rintro e w3 ⟨rfl, hT3⟩
          rw [atE_out (.inl h0)]
          have hTs : Touch nob wr w3 := Touch.trans (by repeat (first | with_reducible exact Touch.refl _ _ | with_reducible assumption | with_reducible apply Touch.alloc | with_reducible apply Touch.drewN | with_reducible apply Touch.drew | with_reducible refine Touch.setCell ?_ (.inr (by first | omega | (simp; done) | (simp; omega))) _)) hT3
          obtain ⟨q0, q1, q2, _⟩ := box3 (blk_touch (World.alloc_heap_new wr _) hT3 (fun x => x))
          clear z0 z1 z2
          go_wp2
          go_roundw
          case rel => exact ⟨k + 1, L, S, ws, by omega, by omega, by omega, by go_num, by go_num, by go_num, hTr.trans hTs, hAr.touch hTs (fun x => x) (fun x => x), HLEN.out, hRr.touch hTs (fun x => x)⟩
          case measure => simp [intOf]; omega
        · clear HI
          go_wp2_with (go_at_call 16; fail)
          refine (arena_Load_no p q _ _ _ _ _ _ (hAr.touch (S := nob) (by repeat (first | with_reducible exact Touch.refl _ _ | with_reducible assumption | with_reducible apply Touch.alloc | with_reducible apply Touch.drewN | with_reducible apply Touch.drew | with_reducible refine Touch.setCell ?_ (.inr (by first | omega | (simp; done) | (simp; omega))) _)) (fun x => x) (fun x => x)) (by rw [HLEN.out]; omega)).mono ?_
          rintro e w3 ⟨rfl, hT3⟩
          rw [atE_out (.inr (by rw [HLEN.out]; exact h0))]
          have hTs : Touch nob wr w3 := Touch.trans (by repeat (first | with_reducible exact Touch.refl _ _ | with_reducible assumption | with_reducible apply Touch.alloc | with_reducible apply Touch.drewN | with_reducible apply Touch.drew | with_reducible refine Touch.setCell ?_ (.inr (by first | omega | (simp; done) | (simp; omega))) _)) hT3
          obtain ⟨q0, q1, q2, _⟩ := box3 (blk_touch (World.alloc_heap_new wr _) hT3 (fun x => x))
          clear z0 z1 z2
          go_wp2
          go_roundw
          case rel => exact ⟨k + 1, L, S, ws, by omega, by omega, by omega, by go_num, by go_num, by go_num, hTr.trans hTs, hAr.touch hTs (fun x => x) (fun x => x), HLEN.out, hRr.touch hTs (fun x => x)⟩
          case measure => simp [intOf]; omega
        · obtain ⟨h0, h1⟩ := h0
          have HJ : Hid (a = ((a.toNat - 1 : Nat) : Int) + 1 ∧ a.toNat - 1 < 1 + m) := by show _ ∧ _; omega
          go_wp2_with (go_at_call 16; fail)
          refine (arena_Load_at p q _ _ _ _ _ (a.toNat - 1) _ (hAr.touch (S := nob) (by repeat (first | with_reducible exact Touch.refl _ _ | with_reducible assumption | with_reducible apply Touch.alloc | with_reducible apply Touch.drewN | with_reducible apply Touch.drew | with_reducible refine Touch.setCell ?_ (.inr (by first | omega | (simp; done) | (simp; omega))) _)) (fun x => x) (fun x => x)) HJ.out.1 (by rw [HLEN.out]; exact HJ.out.2)).mono ?_
          rintro e w3 ⟨rfl, hT3, hA3⟩
          rw [wrap64_in (by omega) (by omega)] at hA3
          have hTs : Touch (fun b => b = p) wr w3 := Touch.trans (S := fun b => b = p) (by repeat (first | with_reducible exact Touch.refl _ _ | with_reducible assumption | with_reducible apply Touch.alloc | with_reducible apply Touch.drewN | with_reducible apply Touch.drew | with_reducible refine Touch.setCell ?_ (.inr (by first | omega | (simp; done) | (simp; omega))) _)) hT3
          obtain ⟨q0, q1, q2, _⟩ := box3 (blk_touch (World.alloc_heap_new wr _) hT3 (by omega))
          have hR3 := hRr.touch hTs hpg
          have hc := hR3.int (j := a.toNat - 1) (by rw [HLEN.out]; exact HJ.out.2)
          obtain ⟨y, hy⟩ : ∃ y, ws.getD (a.toNat - 1) 0 = y := ⟨_, rfl⟩
          rw [hy] at hc ⊢
          clear z0 z1 z2 hy
          go_wp2
          go_roundw
          case rel => exact ⟨k + 1, L + 1, S, ws, by omega, by omega, by omega, by go_num, by go_num, by go_num, hTr.step hTs (fun i hi => .inr (by omega)), hA3, HLEN.out, hR3⟩
          case measure => simp [intOf]; omega
      · rcases (show a = 0 ∨ a < 0 ∨ ((1 + m : Nat) : Int) < a ∨ (1 ≤ a ∧ a ≤ 1 + m) by omega) with rfl | h0 | h0 | h0
        · clear HI
          go_wp2_with (go_at_call 15; fail)
          refine (arena_Store_no p q _ _ _ _ _ _ _ (hAr.touch (S := nob) (by repeat (first | with_reducible exact Touch.refl _ _ | with_reducible assumption | with_reducible apply Touch.alloc | with_reducible apply Touch.drewN | with_reducible apply Touch.drew | with_reducible refine Touch.setCell ?_ (.inr (by first | omega | (simp; done) | (simp; omega))) _)) (fun x => x) (fun x => x)) (by rw [HLEN.out]; omega)).mono ?_
          rintro e w3 ⟨rfl, hT3⟩
          rw [atE_zero]
          have hTs : Touch nob wr w3 := Touch.trans (by repeat (first | with_reducible exact Touch.refl _ _ | with_reducible assumption | with_reducible apply Touch.alloc | with_reducible apply Touch.drewN | with_reducible apply Touch.drew | with_reducible refine Touch.setCell ?_ (.inr (by first | omega | (simp; done) | (simp; omega))) _)) hT3
          obtain ⟨q0, q1, q2, _⟩ := box3 (blk_touch (World.alloc_heap_new wr _) hT3 (fun x => x))
          clear z0 z1 z2
          go_wp2
          go_roundw
          case rel => exact ⟨k + 1, L, S, ws, by omega, by omega, by omega, by go_num, by go_num, by go_num, hTr.trans hTs, hAr.touch hTs (fun x => x) (fun x => x), HLEN.out, hRr.touch hTs (fun x => x)⟩
          case measure => simp [intOf]; omega
        · clear HI
          go_wp2_with (go_at_call 15; fail)
          refine (arena_Store_no p q _ _ _ _ _ _ _ (hAr.touch (S := nob) (by repeat (first | with_reducible exact Touch.refl _ _ | with_reducible assumption | with_reducible apply Touch.alloc | with_reducible apply Touch.drewN | with_reducible apply Touch.drew | with_reducible refine Touch.setCell ?_ (.inr (by first | omega | (simp; done) | (simp; omega))) _)) (fun x => x) (fun x => x)) (by rw [HLEN.out]; omega)).mono ?_
          rintro e w3 ⟨rfl, hT3⟩
          rw [atE_out (.inl h0)]
          have hTs : Touch nob wr w3 := Touch.trans (by repeat (first | with_reducible exact Touch.refl _ _ | with_reducible assumption | with_reducible apply Touch.alloc | with_reducible apply Touch.drewN | with_reducible apply Touch.drew | with_reducible refine Touch.setCell ?_ (.inr (by first | omega | (simp; done) | (simp; omega))) _)) hT3
          obtain ⟨q0, q1, q2, _⟩ := box3 (blk_touch (World.alloc_heap_new wr _) hT3 (fun x => x))
          clear z0 z1 z2
          go_wp2
          go_roundw
          case rel => exact ⟨k + 1, L, S, ws, by omega, by omega, by omega, by go_num, by go_num, by go_num, hTr.trans hTs, hAr.touch hTs (fun x => x) (fun x => x), HLEN.out, hRr.touch hTs (fun x => x)⟩
          case measure => simp [intOf]; omega
        · clear HI
          go_wp2_with (go_at_call 15; fail)
          refine (arena_Store_no p q _ _ _ _ _ _ _ (hAr.touch (S := nob) (by repeat (first | with_reducible exact Touch.refl _ _ | with_reducible assumption | with_reducible apply Touch.alloc | with_reducible apply Touch.drewN | with_reducible apply Touch.drew | with_reducible refine Touch.setCell ?_ (.inr (by first | omega | (simp; done) | (simp; omega))) _)) (fun x => x) (fun x => x)) (by rw [HLEN.out]; omega)).mono ?_
          rintro e w3 ⟨rfl, hT3⟩
          rw [atE_out (.inr (by rw [HLEN.out]; exact h0))]
          have hTs : Touch nob wr w3 := Touch.trans (by repeat (first | with_reducible exact Touch.refl _ _ | with_reducible assumption | with_reducible apply Touch.alloc | with_reducible apply Touch.drewN | with_reducible apply Touch.drew | with_reducible refine Touch.setCell ?_ (.inr (by first | omega | (simp; done) | (simp; omega))) _)) hT3
          obtain ⟨q0, q1, q2, _⟩ := box3 (blk_touch (World.alloc_heap_new wr _) hT3 (fun x => x))
          clear z0 z1 z2
          go_wp2
          go_roundw
          case rel => exact ⟨k + 1, L, S, ws, by omega, by omega, by omega, by go_num, by go_num, by go_num, hTr.trans hTs, hAr.touch hTs (fun x => x) (fun x => x), HLEN.out, hRr.touch hTs (fun x => x)⟩
          case measure => simp [intOf]; omega
        · obtain ⟨h0, h1⟩ := h0
          have HJ : Hid (a = ((a.toNat - 1 : Nat) : Int) + 1 ∧ a.toNat - 1 < 1 + m) := by show _ ∧ _; omega
          go_wp2_with (go_at_call 15; fail)
          refine (arena_Store_at p q _ _ _ _ _ _ (a.toNat - 1) _ (hAr.touch (S := nob) (by repeat (first | with_reducible exact Touch.refl _ _ | with_reducible assumption | with_reducible apply Touch.alloc | with_reducible apply Touch.drewN | with_reducible apply Touch.drew | with_reducible refine Touch.setCell ?_ (.inr (by first | omega | (simp; done) | (simp; omega))) _)) (fun x => x) (fun x => x)) HJ.out.1 (by rw [HLEN.out]; exact HJ.out.2)).mono ?_
          rintro e w3 ⟨rfl, hT3, hA3⟩
          rw [wrap64_in (by omega) (by omega)] at hA3
          have hTs : Touch (fun b => b = p ∨ b = q) wr w3 := Touch.trans (S := fun b => b = p ∨ b = q) (by repeat (first | with_reducible exact Touch.refl _ _ | with_reducible assumption | with_reducible apply Touch.alloc | with_reducible apply Touch.drewN | with_reducible apply Touch.drew | with_reducible refine Touch.setCell ?_ (.inr (by first | omega | (simp; done) | (simp; omega))) _)) hT3
          obtain ⟨q0, q1, q2, _⟩ := box3 (blk_touch (World.alloc_heap_new wr _) hT3 (by omega))
          have hR3 := hRr.touch hTs (by omega)
          have hc := hR3.int (j := a.toNat - 1) (by rw [HLEN.out]; exact HJ.out.2)
          have hcf := hR3.free (a.toNat - 1)
          clear z0 z1 z2
          go_wp2
          go_roundw
          case rel =>
            have hTg : Touch (fun b => b = g) w3 (w3.setCell ⟨g, a.toNat - 1, none⟩ (.int .u64 x)) := Touch.setCell (S := fun b => b = g) (Touch.refl _ _) (.inl rfl) _
            refine ⟨k + 1, L, S + 1, ws.set (a.toNat - 1) x, by omega, by omega, by omega, by go_num, by go_num, by go_num, (hTr.step hTs (fun i hi => .inr (by omega))).step hTg (fun i hi => .inr (by omega)), hA3.touch hTg (by omega) (by omega), by rw [List.length_set]; exact HLEN.out, ?_⟩
            rw [List.map_set]
            exact hR3.set _ _
          case measure => simp [intOf]; omega
    · obtain rfl : k = n := by omega
      have hpr := blk_lt hAr.box
      have hqr := hAr.row.lt
      have hgr := hRr.lt
      clear hlt hL hS HI
      go_wp2_with (go_at_call 38; fail)
      refine (arena_Copy p q _ _ _ _ _ hAr).mono ?_
      rintro e w3 ⟨pc, gc, capc, rfl, hT3, hgc, hpc, hC⟩
      have hA3 := hAr.touch hT3 (fun x => x) (fun x => x)
      have hR3 := hRr.touch hT3 (fun x => x)
      have hT3' := hTr.trans hT3
      obtain ⟨q0, q1, q2, _⟩ := box3 (blk_touch HW.out.2.2 hT3' (fun x => x))
      clear hAr hRr hTr hT3
      go_wp2_with (go_at_call 15; fail)
      refine (arena_Store_any p q _ _ _ _ _ _ _ hA3).mono ?_
      rintro e w4 ⟨⟨f, rfl⟩, hT4⟩
      have hC4 := hC.touch hT4 (by omega) (by omega)
      have hR4 := hR3.touch hT4 (by omega)
      have hT4' : Touch nob W w4 := hT3'.step hT4 (fun i hi => .inr (by omega))
      clear hA3 hR3 hT3' hC hT4 q0 q1 q2
      go_wp2_with (go_at_call 35; fail)
      refine (arena_Dump pc gc _ _ _ _ _ hC4).mono ?_
      rintro e w5 ⟨gd, capd, rfl, hT5, hgd, hD⟩
      have hC5 := hC4.touch hT5 (fun x => x) (fun x => x)
      have hR5 := hR4.touch hT5 (fun x => x)
      have hT5' := hT4'.trans hT5
      clear hC4 hR4 hT4' hT5
      rw [HLEN.out]
      go_wp2_with fail
      go_loopw [20] (fun i wr => ∃ j : Nat, j ≤ 1 + m ∧ i = .int .i64 j ∧ Touch nob w5 wr) (fun i _ => 1 + m - (intOf i).toNat)
      case atStart => exact ⟨0, by omega, rfl, Touch.refl _ _⟩
      case round =>
        obtain ⟨j, hj, rfl, hTj⟩ := hrel
        by_cases hlt : j < 1 + m
        · have u0 := (hD.touch hTj (fun x => x)).int (j := j) (by rw [HLEN.out]; exact hlt)
          have u1 := (hR5.touch hTj (fun x => x)).int (j := j) (by rw [HLEN.out]; exact hlt)
          obtain ⟨y, hy⟩ : ∃ y, ws.getD j 0 = y := ⟨_, rfl⟩
          rw [hy] at u0 u1
          have hb : (j : Int) < ((1 + m : Nat) : Int) := by omega
          clear hy hC5 hR5 hD
          go_wp2_with fail
          go_quiet (fail)
          go_wp2
          go_roundw
          case rel => exact ⟨j + 1, by omega, by go_num, hTj.drewN _⟩
          case measure => simp [intOf]; omega
        · obtain rfl : j = 1 + m := by omega
          have hC6 := hC5.touch hTj (fun x => x) (fun x => x)
          have hT6 := hT5'.trans hTj
          have hnl : ¬ (((1 + m : Nat) : Int) < 1 + m) := by omega
          clear hR5 hC5 hD hT5' hTj hlt hj
          go_wp2_with (go_at_call 36; fail)
          refine (arena_Loads pc gc _ _ _ _ _ hC6).mono ?_
          rintro e w' ⟨rfl, rfl⟩
          go_wp2_with (go_at_call 37; fail)
          refine (arena_Stores pc gc _ _ _ _ _ hC6).mono ?_
          rintro e w' ⟨rfl, rfl⟩
          go_wp2_with (go_at_call 39; fail)
          refine (arena_Len pc gc _ _ _ _ _ hC6).mono ?_
          rintro e w' ⟨rfl, rfl⟩
          rw [HLEN.out]
          go_wp2_with (go_at_call 17; fail)
          refine (law06_awake _).mono ?_
          rintro e w7 ⟨rfl, hT7⟩
          go_wp2
          go_ret
          exact ⟨rfl, ((HW.out.1.trans hT6).trans hT7).below⟩
end Go.Proofs.Ythdlgffpcfjbiaa
