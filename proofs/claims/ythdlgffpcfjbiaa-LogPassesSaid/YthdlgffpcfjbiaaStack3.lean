/- Push that is refused, Pop, All, Same, walked. Conditions: none beyond what each says. -/
import Derived.Test.YthdlgffpcfjbiaaStack
namespace Go.Proofs.Ythdlgffpcfjbiaa
open Go.RowKit

set_option maxHeartbeats 400000 in
theorem stack_Push_no (p : Nat) (F : Nat → Prop) (v : Value) (xs : List Int) (room : Int) (over : Bool) (x : Int) (w : World) (h : StackAt w p F v xs room over) (hr : ¬ xs.length < room) :
    Calls Try.prog 20 #[.pointer (some ⟨p, 0, none⟩), .int .i64 x] w fun e w' => e = .returned (.bool false) ∧ Touch F w w' ∧ StackAt w' p F v xs room true := by
  have hmf := hmkf
  obtain ⟨l0, l1⟩ := h.len
  go_enter Try.func20, Try.ntmps20
  go_wp2_with fail
  obtain ⟨W, hW⟩ : ∃ W, W = (w.alloc (Obj.cells #[.pointer (some ⟨p, 0, none⟩)] 34)).alloc (Obj.cells #[.int .i64 x] 3) := ⟨_, rfl⟩
  obtain ⟨b, hb⟩ : ∃ b, b = w.heap.size := ⟨_, rfl⟩
  rw [← hW, ← hb]
  obtain ⟨c0, f0⟩ := box1 (show W.heap[b]? = some _ by rw [hW, hb]; exact alloc2_0 w _ _)
  obtain ⟨c1, f1⟩ := box1 (show W.heap[b + 1]? = some _ by rw [hW, hb]; exact alloc2_1 w _ _)
  have hT : Touch nob w W := by rw [hW]; repeat (first | with_reducible exact Touch.refl _ _ | with_reducible assumption | with_reducible apply Touch.alloc | with_reducible apply Touch.drewN | with_reducible apply Touch.drew | with_reducible refine Touch.setCell ?_ (.inr (by first | omega | (simp; done) | (simp; omega))) _)
  have hA := h.touch hT (fun _ _ x => x)
  obtain ⟨d0, d1, d2, e0, e1, e2⟩ := box3 hA.box
  have hpb : ¬ p = b := by have := blk_lt h.box; omega
  have hlen : ∃ ao cap, v = .slice ao xs.length cap := by
    rcases h.form with ⟨rfl, rfl⟩ | ⟨g, cap, rfl, _⟩
    · exact ⟨_, _, rfl⟩
    · exact ⟨_, _, rfl⟩
  obtain ⟨ao, cap, hv⟩ := hlen
  subst hv
  have HX := Lib.hid (And.intro hT (And.intro hA hb))
  have hne : (((xs.length : Nat) : Int) == room) = true := by simp; omega
  clear hW h hT hA hb
  go_wp2_with go_in
  go_quiet (fail)
  go_wp2_with go_in
  go_ret
  obtain ⟨hT, hA, _⟩ := HX.out
  have hA2 := hA.touch ((Touch.refl nob W).drewN nq) (fun _ _ x => x)
  refine ⟨rfl, Touch.setCell (S := F) ((hT.mono (fun _ _ h => h.elim)).drewN nq) (.inl hA.fp) _, blk_set hA2.box rfl, owns_touch hA2.own (Touch.setCell (S := fun b => b = p) (Touch.refl _ _) (.inl rfl) _) (fun b hb => (hA.fv b hb).2), hA.len, hA.fp, hA.fv⟩

theorem stack_Pop_no (p : Nat) (F : Nat → Prop) (v : Value) (room : Int) (over : Bool) (w : World) (h : StackAt w p F v [] room over) :
    Calls Try.prog 23 #[.pointer (some ⟨p, 0, none⟩)] w fun e w' => e = .returned (.tuple #[.int .i64 0, .bool false]) ∧ Touch nob w w' := by
  go_enter Try.func23, Try.ntmps23
  go_wp2_with (go_at_call 22; refine (stack_Len p F v [] room over w h).mono ?_; rintro e w1 ⟨rfl, hT⟩; rw [List.length_nil])
  go_ret2
  exact ⟨rfl, hT⟩

set_option maxHeartbeats 400000 in
theorem stack_Pop_ok (p : Nat) (F : Nat → Prop) (v : Value) (xs : List Int) (y : Int) (room : Int) (over : Bool) (w : World) (h : StackAt w p F v (xs ++ [y]) room over) :
    Calls Try.prog 23 #[.pointer (some ⟨p, 0, none⟩)] w fun e w' => e = .returned (.tuple #[.int .i64 y, .bool true]) ∧ Touch F w w' ∧ ∃ v', StackAt w' p F v' xs room over := by
  obtain ⟨n, hn⟩ : ∃ n, xs.length = n := ⟨_, rfl⟩
  obtain ⟨l0, l1⟩ := h.len
  rw [List.length_append, hn] at l0
  have hl : (xs ++ [y]).length = n + 1 := by rw [List.length_append, hn]; rfl
  go_enter Try.func23, Try.ntmps23
  go_wp2_with (go_at_call 22; fail)
  refine (stack_Len p F v _ room over w h).mono ?_
  rintro e w1 ⟨rfl, hT⟩
  have hA := h.touch hT (fun _ _ x => x)
  obtain ⟨d0, d1, d2, e0, e1, e2⟩ := box3 hA.box
  rcases hA.form with ⟨_, hx⟩ | ⟨g, cap, rfl, hgp, hgl, hR⟩
  · simp at hx
  have hc := hR.int' (j := n) hl hn
  obtain ⟨_, _, _, hcap, _⟩ := id hR
  rw [List.length_map, hl] at hcap
  rw [hl] at d0 ⊢
  have HX := Lib.hid (And.intro hT (And.intro hA (And.intro hn hl)))
  clear hA h hR hn hl hT
  go_wp2
  go_ret2
  obtain ⟨hT, hA, hn, hl⟩ := HX.out
  refine ⟨rfl, Touch.setCell (S := F) (hT.mono (fun _ _ h => h.elim)) (.inl hA.fp) _, .slice (some ⟨g, 0, none⟩) n cap, blk_set hA.box rfl, ?_, ⟨by simp at l0; omega, l1⟩, hA.fp, fun b hb => by cases hb; exact hA.fv _ rfl⟩
  have ho := owns_take hA.own (k := n) (by rw [hl]; omega)
  rw [show ((xs ++ [y]).map (Value.int .i64)).take n = xs.map (Value.int .i64) by subst hn; simp] at ho
  rw [hn]
  exact owns_touch ho (Touch.setCell (S := fun b => b = p) (Touch.refl _ _) (.inl rfl) _) (fun b hb => by cases hb; exact hgp)

theorem info_int' : (Try.prog.info? 3).map (fun i => (i.zero, i.size, i.bytes)) = some (some (.int .i64 0), 1, 8) := by kernel_rfl
theorem clone_int_nil (w : World) : Calls Try.prog 55 #[.slice none 0 0] w fun e w' => e = .returned (.slice none 0 0) ∧ w = w' := by
  have hsn : ∀ (w : World), (binOp .eql 33 (.slice none 0 0) (.slice none 0 0)).run Try.prog w = .ok (.bool true) w := fun _ => by kernel_rfl
  go_enter Try.func55, Try.ntmps55
  go_wp2
  go_ret
  exact ⟨rfl, rfl⟩
theorem clone_int (q cap : Nat) (xs : List Int) (w : World) (h : RowAt w q 3 cap (xs.map (.int .i64))) (h2 : xs.length ≤ 1048576) :
    Calls Try.prog 55 #[.slice (some ⟨q, 0, none⟩) xs.length cap] w fun e w' => ∃ v', e = .returned v' ∧ Touch nob w w' ∧ w'.ownsRow w.heap.size 3 1 v' xs.length (xs.map (.int .i64)) := by
  obtain ⟨i0, hi, hz0, hz1, hz2⟩ := info_parts info_int'
  have hq := h.lt
  have HC := Lib.hid (fun j u (hj : (xs.map (Value.int .i64))[j]? = some u) => show w.cell? ⟨q, j, none⟩ = some u by
    obtain ⟨hl, rfl⟩ := List.getElem?_eq_some_iff.1 hj
    exact h.cell hl)
  clear h
  go_enter Try.func55, Try.ntmps55
  have hsn : ∀ (a : Addr) (l c : Nat) (w : World), (binOp .eql 33 (.slice (some a) l c) (.slice none 0 0)).run Try.prog w = .ok (.bool false) w := fun _ _ _ _ => by kernel_rfl
  go_wp2_with (at_builtin; refine wpList_append_own _ rfl (.tmp 5) (.tmp 6) 33 rfl w.heap.size 3 i0 (.int .i64 0) 1 8 Try.underlying33 hi hz0 hz1 hz2 rfl (by decide) _ 0 [] rfl ?c0 ⟨q, 0, none⟩ xs.length cap (xs.map (.int .i64)) rfl (by simp) ?c1 (ints_oneCell _ _) (by unfold maxLen; omega) (by omega) (by simp) ?_; rotate_right; intro v1 w1 hown hgrow _; have HX := Lib.hid (And.intro hown hgrow); clear hown hgrow)
  case c0 => exact ⟨rfl, .inr ⟨w.heap.size, 0, #[], rfl, Nat.le_refl _, World.alloc_heap_new _ _, Nat.le_refl _, by unfold maxLen; omega, rfl, rfl⟩⟩
  case c1 =>
    intro j u hj
    have h0 := HC.out j u hj
    rw [Addr.add_lit, Nat.zero_add]
    exact (World.cell?_of_block (a := ⟨q, j, none⟩) (Below.heap_alloc _ _ _ hq)).trans h0
  go_ret
  obtain ⟨hown, hgrow⟩ := HX.out
  simp only [Nat.zero_add, List.nil_append] at hown
  refine ⟨v1, rfl, ?_, hown⟩
  obtain ⟨h1, h2, h3, h4, h5⟩ := hgrow
  refine ⟨h1, h2, h3, Nat.le_trans (by simp) h4, fun k hk _ => (h5 k (by rw [World.size_alloc]; omega) (fun e => ?_)).trans (Below.heap_alloc _ _ _ hk)⟩
  cases e
  exact Nat.lt_irrefl _ hk
theorem stack_All (p : Nat) (F : Nat → Prop) (v : Value) (xs : List Int) (room : Int) (over : Bool) (w : World) (h : StackAt w p F v xs room over) :
    Calls Try.prog 26 #[.pointer (some ⟨p, 0, none⟩)] w fun e w' => ∃ v', e = .returned v' ∧ Touch nob w w' ∧ w'.ownsRow w.heap.size 3 1 v' xs.length (xs.map (.int .i64)) := by
  have hmf := hmkf
  obtain ⟨l0, l1⟩ := h.len
  go_enter Try.func26, Try.ntmps26
  go_wp2_with fail
  obtain ⟨W, hW⟩ : ∃ W, W = w.alloc (Obj.cells #[.pointer (some ⟨p, 0, none⟩)] 34) := ⟨_, rfl⟩
  obtain ⟨b, hb⟩ : ∃ b, b = w.heap.size := ⟨_, rfl⟩
  rw [← hW, ← hb]
  obtain ⟨c0, f0⟩ := box1 (show W.heap[b]? = some _ by rw [hW, hb]; exact World.alloc_heap_new w _)
  have hT : Touch nob w W := by rw [hW]; repeat (first | with_reducible exact Touch.refl _ _ | with_reducible assumption | with_reducible apply Touch.alloc | with_reducible apply Touch.drewN | with_reducible apply Touch.drew | with_reducible refine Touch.setCell ?_ (.inr (by first | omega | (simp; done) | (simp; omega))) _)
  have hA := h.touch hT (fun _ _ x => x)
  obtain ⟨d0, d1, d2, e0, e1, e2⟩ := box3 hA.box
  have HX := Lib.hid (And.intro hT (And.intro hA hb))
  rcases hA.form with ⟨rfl, rfl⟩ | ⟨g, cap, rfl, _, _, hR⟩
  · clear hW h hT hA hb
    go_wp2_with (first | (go_at_call 55; refine (clone_int_nil _).mono ?_; rintro e w' ⟨rfl, rfl⟩) | go_in)
    go_ret
    exact ⟨_, rfl, HX.out.1, World.ownsRow_nil _ _ _ _⟩
  · have HR := Lib.hid hR
    clear hW h hT hA hb hR
    go_wp2_with (first | (go_at_call 55; refine (clone_int g cap xs _ HR.out (by omega)).mono ?_; rintro e w1 ⟨v', rfl, hT1, hown⟩) | go_in)
    go_ret
    obtain ⟨hT, hA, hb⟩ := HX.out
    refine ⟨v', rfl, hT.trans hT1, hown.1, ?_⟩
    rcases hown.2 with h | ⟨g', c', cur, h1, h2, h3⟩
    · exact .inl h
    · exact .inr ⟨g', c', cur, h1, Nat.le_trans hT.size h2, h3⟩

/-- A slice that reads so. -/
theorem ints_owned {w : World} {base : Nat} {v : Value} {n : Nat} {xs : List Int} (h : w.ownsRow base 3 1 v n (xs.map (.int .i64))) : IntsIn w v xs := by
  obtain ⟨h1, h2⟩ := id h
  rcases h2 with ⟨rfl, rfl⟩ | ⟨g, cap, cur, rfl, hg, hh, hn, r⟩
  · have : xs = [] := by simpa using h1
    subst this
    exact ⟨none, 0, rfl, .inl rfl⟩
  · have hl : xs.length = n := by simpa using h1
    refine ⟨some ⟨g, 0, none⟩, cap, by rw [hl], .inr ⟨g, 0, rfl, by omega, fun j hj => ?_⟩⟩
    rw [Nat.zero_add, (RowAt.of_owns h).1.cell (j := j) (by simpa using hj)]
    simp [List.getD_eq_getElem?_getD, hj]

set_option maxHeartbeats 400000 in
theorem ref01_Same (v1 v2 : Value) (xs : List Int) (w : World) (h1 : IntsIn w v1 xs) (h2 : IntsIn w v2 xs) (hn : xs.length ≤ 1048576) :
    Calls Try.prog 25 #[v1, v2] w fun e w' => e = .returned (.bool true) ∧ Touch nob w w' := by
  obtain ⟨ao1, c1, rfl, h1⟩ := h1
  obtain ⟨ao2, c2, rfl, h2⟩ := h2
  obtain ⟨n, hl⟩ : ∃ n, xs.length = n := ⟨_, rfl⟩
  have H1 := Lib.hid h1
  have H2 := Lib.hid h2
  rw [hl] at hn ⊢
  have HL := Lib.hid hl
  clear h1 h2 hl
  go_enter Try.func25, Try.ntmps25
  go_wp2_with fail
  go_loopw [5] (fun i wr => ∃ k : Nat, k ≤ n ∧ i = .int .i64 k ∧ Touch nob w wr) (fun i _ => n - (intOf i).toNat)
  case atStart => exact ⟨0, by omega, rfl, Touch.refl _ _⟩
  case round =>
    obtain ⟨k, hk, rfl, hT⟩ := hrel
    by_cases hlt : k < n
    · have hne : ¬ xs = [] := by intro h; have := HL.out; rw [h] at this; simp at this; omega
      obtain ⟨b1, o1, e1, cc1, q1⟩ := H1.out.resolve_left hne
      obtain ⟨b2, o2, e2, cc2, q2⟩ := H2.out.resolve_left hne
      subst e1 e2
      have z1 := q1 k (by rw [HL.out]; exact hlt)
      have z2 := q2 k (by rw [HL.out]; exact hlt)
      have y1 := (hT.cell (cell_lt z1) (fun x => x)).trans z1
      have y2 := (hT.cell (cell_lt z2) (fun x => x)).trans z2
      obtain ⟨y, hy⟩ : ∃ y, xs.getD k 0 = y := ⟨_, rfl⟩
      rw [hy] at y1 y2
      rw [HL.out] at cc1 cc2
      have hb : (k : Int) < (n : Int) := by omega
      clear q1 q2 z1 z2 hy hne
      go_wp2_with fail
      go_quiet (fail)
      go_wp2
      go_roundw
      case rel => exact ⟨k + 1, by omega, by go_num, hT.drewN _⟩
      case measure => simp [intOf]; omega
    · obtain rfl : k = n := by omega
      go_wp2
      go_ret
      exact ⟨rfl, hT⟩
end Go.Proofs.Ythdlgffpcfjbiaa
