/- Tables of blocks: Assign, Class, Copy, walked. Conditions: none beyond what each says. -/
import Derived.Test.YtjbmpdibjfcafaaDoorBlk
namespace Go.Proofs.YtjbmpdibjfcafaaDoor
open Go.RowKit

variable {w : World} {p q cap n : Nat} {c : Cf} {ks : List Int}
theorem clone_int (q cap : Nat) (ws : List Int) (w : World) (h : RowAt w q 3 cap (ws.map (.int .i64))) (h2 : ws.length ≤ 1048576) :
    Calls Tryd.prog 72 #[.slice (some ⟨q, 0, none⟩) ws.length cap] w fun e w' => ∃ g cap', e = .returned (.slice (some ⟨g, 0, none⟩) ws.length cap') ∧ Touch nob w w' ∧ w.heap.size ≤ g ∧ RowAt w' g 3 cap' (ws.map (.int .i64)) := by
  obtain ⟨i0, hi, hz0, hz1, hz2⟩ := info_parts info_int2
  have hq := h.lt
  have HC := Lib.hid (fun j u (hj : (ws.map (Value.int .i64))[j]? = some u) => show w.cell? ⟨q, j, none⟩ = some u by
    obtain ⟨hl, rfl⟩ := List.getElem?_eq_some_iff.1 hj
    exact h.cell hl)
  clear h
  have hsn : ∀ (a : Addr) (l c : Nat) (w : World), (binOp .eql 23 (.slice (some a) l c) (.slice none 0 0)).run Tryd.prog w = .ok (.bool false) w := fun _ _ _ _ => by kernel_rfl
  by_cases h1 : 1 ≤ ws.length
  · go_enter Tryd.func72, Tryd.ntmps72
    go_wp2_with (at_builtin; refine wpList_append_grows _ rfl (.tmp 5) (.tmp 6) 23 rfl 3 i0 (.int .i64 0) 1 8 Tryd.underlying23 hi hz0 hz1 hz2 rfl (by decide) _ 0 0 [] rfl (by intro h; exact ⟨rfl, rfl⟩) rfl (by intro _ _ j u hj; simp at hj) ⟨q, 0, none⟩ ws.length cap (ws.map (.int .i64)) rfl (by simp) ?c1 (ints_oneCell _ _) (by omega) (by unfold maxLen; omega) (by omega) ?_; rotate_right; intro v1 w1 hown hgrow; have HX := Lib.hid (And.intro hown hgrow); clear hown hgrow)
    case c1 =>
      intro j u hj
      have h0 := HC.out j u hj
      rw [Addr.add_lit, Nat.zero_add]
      exact (World.cell?_of_block (a := ⟨q, j, none⟩) (Below.heap_alloc _ _ _ hq)).trans h0
    go_ret
    obtain ⟨hown, hgrow⟩ := HX.out
    simp only [Nat.zero_add, List.nil_append] at hown
    obtain ⟨g, cap', rfl, hg, hr, _⟩ := RowAt.of_owns_some hown (by omega)
    exact ⟨g, cap', rfl, Touch.grown ((Touch.refl nob w).alloc _) hgrow (fun _ h => by cases h), by rw [World.size_alloc] at hg; omega, hr⟩
  · obtain rfl : ws = [] := by cases ws <;> simp_all
    go_enter Tryd.func72, Tryd.ntmps72
    go_wp2_with fail
    go_ret
    exact ⟨w.heap.size, 0, rfl, (Touch.refl nob w).alloc _, Nat.le_refl _, ⟨#[], World.alloc_heap_new w _, rfl, Nat.le_refl _, rfl⟩⟩
theorem blk_Assign_arg (k : Int) (_ : BlkAt w p q cap n c ks) (hk : isCls k = false) :
    Calls Tryd.prog 33 #[.pointer (some ⟨p, 0, none⟩), .int .i64 k] w fun e w' => e = .returned (.tuple #[.int .i64 0, .int .i64 1]) ∧ w = w' := by
  go_enter Tryd.func33, Tryd.ntmps33
  go_wp2_with (go_at_call 70; fail)
  refine (class_Is k w).mono ?_
  rintro e w' ⟨rfl, rfl⟩
  rw [hk]
  go_wp2
  go_ret2
  exact ⟨rfl, rfl⟩
theorem blk_Assign_full (k : Int) (h : BlkAt w p q cap n c ks) (hk : isCls k = true) (hf : ks.length = n) :
    Calls Tryd.prog 33 #[.pointer (some ⟨p, 0, none⟩), .int .i64 k] w fun e w' => e = .returned (.tuple #[.int .i64 0, .int .i64 10]) ∧ Touch nob w w' := by
  obtain ⟨⟨d0, d1, d2, d3⟩, d4, d5, d6, d7⟩ := box8 h.box
  have hx := slices_Index (q := q) (w := w) (kint ks n) cap 0 n h.row (by rw [kint_len h.le]; exact h.n4.2) (by rw [kint_len h.le]; exact Nat.le_refl _) (fun i hi => by
    rw [kint_lt (by omega)]
    have := (isCls_iff.1 (h.cls i (by omega))).1
    omega) (fun hh => by rw [kint_len h.le] at hh; omega)
  rw [kint_len h.le, if_neg (Nat.lt_irrefl n)] at hx
  have HX := Lib.hid hx
  clear h hx d0 d1 d2 d3 d4 d5 d6
  go_enter Tryd.func33, Tryd.ntmps33
  go_wp2_with (go_at_call 70; fail)
  refine (class_Is k w).mono ?_
  rintro e w' ⟨rfl, rfl⟩
  rw [hk]
  go_wp2_with (go_at_call 71; fail)
  refine HX.out.mono ?_
  rintro e w' ⟨rfl, hT⟩
  have HT := Lib.hid hT
  clear hT
  go_wp2
  go_ret2
  exact ⟨rfl, HT.out⟩
theorem blk_Assign_ok (k : Int) (h : BlkAt w p q cap n c ks) (hk : isCls k = true) (hf : ks.length < n) :
    Calls Tryd.prog 33 #[.pointer (some ⟨p, 0, none⟩), .int .i64 k] w fun e w' => e = .returned (.tuple #[.int .i64 ks.length, .int .i64 0]) ∧ Touch (fun j => j = q) w w' ∧ BlkAt w' p q cap n c (ks ++ [k]) := by
  obtain ⟨⟨d0, d1, d2, d3⟩, d4, d5, d6, d7⟩ := box8 h.box
  have hx := slices_Index (q := q) (w := w) (kint ks n) cap 0 ks.length h.row (by rw [kint_len h.le]; exact h.n4.2) (by rw [kint_len h.le]; exact h.le) (fun i hi => by
    rw [kint_lt hi]
    have := (isCls_iff.1 (h.cls i hi)).1
    omega) (fun _ => kint_ge (Nat.le_refl _))
  rw [kint_len h.le, if_pos hf] at hx
  have HX := Lib.hid hx
  have H := Lib.hid h
  have hn4 := h.n4.2
  obtain ⟨m, hm⟩ : ∃ m, ks.length = m := ⟨_, rfl⟩
  rw [hm] at hf HX ⊢
  have HM := Lib.hid hm
  have hb : (m : Int) < (n : Int) := by omega
  obtain ⟨k0, k1⟩ := isCls_iff.1 hk
  clear h hx d0 d1 d2 d3 d4 d5 d6 hm
  go_enter Tryd.func33, Tryd.ntmps33
  go_wp2_with (go_at_call 70; fail)
  refine (class_Is k w).mono ?_
  rintro e w' ⟨rfl, rfl⟩
  rw [hk]
  go_wp2_with (go_at_call 71; fail)
  refine HX.out.mono ?_
  rintro e w1 ⟨rfl, hT⟩
  have h1 := H.out.old hT
  obtain ⟨⟨_, _, _, _⟩, _, _, _, e7⟩ := box8 h1.box
  have dq := int_cell h1.row (i := m) (by rw [kint_len H.out.le]; omega)
  have fq := h1.row.free m
  have H1 := Lib.hid (And.intro hT h1)
  clear hT h1 d7
  go_wp2
  go_ret2
  obtain ⟨hT, h1⟩ := H1.out
  refine ⟨rfl, Touch.setCell (S := fun j => j = q) (hT.mono (fun _ _ x => x.elim)) (.inl rfl) _, ⟨(set_other _ h1.ne).trans h1.box, ?_, h1.ok, h1.hn, by rw [List.length_append, HM.out]; exact hf, fun j hj => ?_⟩⟩
  · rw [kint_snoc (by rw [HM.out]; exact hf), HM.out, List.map_set]
    exact h1.row.set _ _
  · rw [List.length_append] at hj
    simp only [List.length_cons, List.length_nil, Nat.zero_add] at hj
    by_cases hjm : j < ks.length
    · rw [getD_append_left hjm]; exact h1.cls j hjm
    · rw [show j = ks.length by omega, getD_snoc]; exact hk
theorem blk_Class_no (b : Int) (h : BlkAt w p q cap n c ks) (hb : b < 0 ∨ (ks.length : Int) ≤ b) :
    Calls Tryd.prog 41 #[.pointer (some ⟨p, 0, none⟩), .int .i64 b] w fun e w' => e = .returned (.tuple #[.int .i64 0, .bool false]) ∧ w = w' := by
  obtain ⟨⟨d0, d1, d2, d3⟩, d4, d5, d6, d7⟩ := box8 h.box
  have hn4 := h.n4.2
  by_cases hb0 : b < 0
  · clear h d0 d1 d2 d3 d4 d5 d6
    go_enter Tryd.func41, Tryd.ntmps41
    go_wp2
    go_ret2
    exact ⟨rfl, rfl⟩
  · obtain ⟨j, rfl⟩ := Int.eq_ofNat_of_zero_le (show 0 ≤ b by omega)
    by_cases hj : j < n
    · have dq := int_cell h.row (i := j) (by rw [kint_len h.le]; exact hj)
      rw [kint_ge (by omega)] at dq
      have hbi : (j : Int) < (n : Int) := by omega
      clear h d0 d1 d2 d3 d4 d5 d6 hb hb0
      go_enter Tryd.func41, Tryd.ntmps41
      go_wp2
      go_ret2
      exact ⟨rfl, rfl⟩
    · have hbi : (n : Int) ≤ (j : Int) := by omega
      clear h d0 d1 d2 d3 d4 d5 d6 hb hb0
      go_enter Tryd.func41, Tryd.ntmps41
      go_wp2
      go_ret2
      exact ⟨rfl, rfl⟩
set_option maxHeartbeats 800000 in
theorem blk_Copy (h : BlkAt w p q cap n c ks) :
    Calls Tryd.prog 34 #[.pointer (some ⟨p, 0, none⟩)] w fun e w' => ∃ p' g cap', e = .returned (.pointer (some ⟨p', 0, none⟩)) ∧ Touch nob w w' ∧ w.heap.size ≤ p' ∧ w.heap.size ≤ g ∧ BlkAt w' p' g cap' n c ks := by
  obtain ⟨⟨d0, d1, d2, d3⟩, d4, d5, d6, d7⟩ := box8 h.box
  have hx := fun w' (ht : Touch nob w w') => clone_int q cap (kint ks n) w' ((h.old ht).row) (by rw [kint_len h.le]; have := h.n4.2; omega)
  rw [kint_len h.le] at hx
  have HH := Lib.hid (fun w' (ht : Touch nob w w') => And.intro (h.old ht) (hx w' ht))
  have HC := Lib.hid (fun w' (ht : Touch nob w w') => show Touch nob w w' ∧ w'.cell? ⟨p, 0, none⟩ = some (.int .i64 c.c0) ∧ w'.cell? ⟨p, 1, none⟩ = some (.int .i64 c.c1) ∧ w'.cell? ⟨p, 2, none⟩ = some (.int .i64 c.c2) ∧ w'.cell? ⟨p, 3, none⟩ = some (.int .i64 c.c3) ∧ w'.cell? ⟨p, 4, none⟩ = some (.int .i64 c.c4) ∧ w'.cell? ⟨p, 5, none⟩ = some (.int .i64 c.c5) ∧ w'.cell? ⟨p, 6, none⟩ = some (.int .i64 c.c6) ∧ w'.cell? ⟨p, 7, none⟩ = some (.slice (some ⟨q, 0, none⟩) n cap) from
    have hb := box8 (h.old ht).box
    ⟨ht, hb.1.1, hb.1.2.1, hb.1.2.2.1, hb.1.2.2.2, hb.2.1, hb.2.2.1, hb.2.2.2.1, hb.2.2.2.2⟩)
  clear h hx
  go_enter Tryd.func34, Tryd.ntmps34
  go_wp2_with fail
  go_region_held3 (fun w' => Touch nob w w' ∧ w'.cell? ⟨p, 0, none⟩ = some (.int .i64 c.c0) ∧ w'.cell? ⟨p, 1, none⟩ = some (.int .i64 c.c1) ∧ w'.cell? ⟨p, 2, none⟩ = some (.int .i64 c.c2) ∧ w'.cell? ⟨p, 3, none⟩ = some (.int .i64 c.c3) ∧ w'.cell? ⟨p, 4, none⟩ = some (.int .i64 c.c4) ∧ w'.cell? ⟨p, 5, none⟩ = some (.int .i64 c.c5) ∧ w'.cell? ⟨p, 6, none⟩ = some (.int .i64 c.c6) ∧ w'.cell? ⟨p, 7, none⟩ = some (.slice (some ⟨q, 0, none⟩) n cap)) (first | exact HC.out _ (by first | assumption | repeat (first | with_reducible exact Touch.refl _ _ | with_reducible assumption | with_reducible apply Touch.alloc | with_reducible apply Touch.drewN | with_reducible apply Touch.drew | with_reducible refine Touch.setCell ?_ (.inr (by first | omega | (simp; done) | (simp; omega))) _))) (first | (go_at_call 72; refine ((HH.out _ (by repeat (first | with_reducible exact Touch.refl _ _ | with_reducible assumption | with_reducible apply Touch.alloc | with_reducible apply Touch.drewN | with_reducible apply Touch.drew | with_reducible refine Touch.setCell ?_ (.inr (by first | omega | (simp; done) | (simp; omega))) _))).2).mono ?_; rintro e w1 ⟨g, cap', rfl, h1, h2, h3⟩; have hT1 := Touch.trans (S := nob) (show Touch nob w _ by repeat (first | with_reducible exact Touch.refl _ _ | with_reducible assumption | with_reducible apply Touch.alloc | with_reducible apply Touch.drewN | with_reducible apply Touch.drew | with_reducible refine Touch.setCell ?_ (.inr (by first | omega | (simp; done) | (simp; omega))) _)) h1))
  all_goals
    go_wp2
    go_ret
    have hS := (HH.out w (Touch.refl _ _)).1
    exact ⟨w1.heap.size, g, cap', rfl, hT1.alloc _, h1.size, h2, ⟨World.alloc_heap_new w1 _, h3.touch ((Touch.refl nob _).alloc _) (fun x => x), hS.ok, hS.hn, hS.le, hS.cls⟩⟩
theorem blk_Copy_nil (w : World) : Calls Tryd.prog 34 #[.pointer none] w fun e w' => e = .returned (.pointer none) ∧ w = w' := by
  go_enter Tryd.func34, Tryd.ntmps34
  go_wp2
  go_ret
  exact ⟨rfl, rfl⟩
end Go.Proofs.YtjbmpdibjfcafaaDoor
