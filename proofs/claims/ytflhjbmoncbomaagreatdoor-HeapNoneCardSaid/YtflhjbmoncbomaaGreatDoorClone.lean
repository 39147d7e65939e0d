/- Sets of numbers: a row of words cloned, and a set copied. Conditions: none beyond what each says. -/
import Derived.Test.YtflhjbmoncbomaaGreatDoorSet4
namespace Go.Proofs.YtflhjbmoncbomaaGreatDoor
open Go.RowKit

variable {w : World} {p q cap : Nat} {ws : List Nat} {size : Nat} {M : Nat → Bool}
theorem u64s_int (l : List Nat) : u64s l = (l.map fun (x : Nat) => (x : Int)).map (Value.int .u64) := by simp [u64s]
theorem clone_u64 (q cap : Nat) (ws : List Int) (w : World) (h : RowAt w q 113 cap (ws.map (.int .u64))) (h2 : ws.length ≤ 1048576) :
    Calls Tryz.prog 107 #[.slice (some ⟨q, 0, none⟩) ws.length cap] w fun e w' => ∃ g cap', e = .returned (.slice (some ⟨g, 0, none⟩) ws.length cap') ∧ Touch nob w w' ∧ w.heap.size ≤ g ∧ RowAt w' g 113 cap' (ws.map (.int .u64)) := by
  obtain ⟨i0, hi, hz0, hz1, hz2⟩ := info_parts info_u64
  have hq := h.lt
  have HC := Lib.hid (fun j u (hj : (ws.map (Value.int .u64))[j]? = some u) => show w.cell? ⟨q, j, none⟩ = some u by
    obtain ⟨hl, rfl⟩ := List.getElem?_eq_some_iff.1 hj
    exact h.cell hl)
  clear h
  have hsn : ∀ (a : Addr) (l c : Nat) (w : World), (binOp .eql 136 (.slice (some a) l c) (.slice none 0 0)).run Tryz.prog w = .ok (.bool false) w := fun _ _ _ _ => by kernel_rfl
  by_cases h1 : 1 ≤ ws.length
  · go_enter Tryz.func107, Tryz.ntmps107
    go_wp2_with (at_builtin; refine wpList_append_grows _ rfl (.tmp 5) (.tmp 6) 136 rfl 113 i0 (.int .u64 0) 1 8 Tryz.underlying136 hi hz0 hz1 hz2 rfl (by decide) _ 0 0 [] rfl (by intro h; exact ⟨rfl, rfl⟩) rfl (by intro _ _ j u hj; simp at hj) ⟨q, 0, none⟩ ws.length cap (ws.map (.int .u64)) rfl (by simp) ?c1 (ints_oneCell _ _) (by omega) (by unfold maxLen; omega) (by omega) ?_; rotate_right; intro v1 w1 hown hgrow; have HX := Lib.hid (And.intro hown hgrow); clear hown hgrow)
    case c1 =>
      intro j u hj
      have h0 := HC.out j u hj
      rw [Addr.add_lit, Nat.zero_add]
      exact (World.cell?_of_block (a := ⟨q, j, none⟩) (Below.heap_alloc _ _ _ hq)).trans h0
    go_ret
    obtain ⟨hown, hgrow⟩ := HX.out
    simp only [Nat.zero_add, List.nil_append] at hown
    obtain ⟨g, cap', rfl, hg, hr, _⟩ := RowAt.of_owns_some hown (by omega)
    exact ⟨g, cap', rfl, Touch.grown ((Touch.refl nob w).alloc _) hgrow (fun _ h => by cases h), by rw [World.size_alloc] at hg; omega, hr⟩
  · obtain rfl : ws = [] := by cases ws <;> simp_all
    go_enter Tryz.func107, Tryz.ntmps107
    go_wp2_with fail
    go_ret
    exact ⟨w.heap.size, 0, rfl, (Touch.refl nob w).alloc _, Nat.le_refl _, ⟨#[], World.alloc_heap_new w _, rfl, Nat.le_refl _, rfl⟩⟩
theorem clone_words (h : RowAt w q 113 cap (u64s ws)) (h2 : ws.length ≤ 1048576) :
    Calls Tryz.prog 107 #[.slice (some ⟨q, 0, none⟩) ws.length cap] w fun e w' => ∃ g cap', e = .returned (.slice (some ⟨g, 0, none⟩) ws.length cap') ∧ Touch nob w w' ∧ w.heap.size ≤ g ∧ RowAt w' g 113 cap' (u64s ws) := by
  have := clone_u64 q cap (ws.map fun (x : Nat) => (x : Int)) w (by rw [← u64s_int]; exact h) (by rw [List.length_map]; exact h2)
  rwa [← u64s_int, List.length_map] at this

set_option maxHeartbeats 400000 in
theorem set_Copy (h : SetAt w p q cap ws size M) :
    Calls Tryz.prog 61 #[.pointer (some ⟨p, 0, none⟩)] w fun e w' => ∃ p' g cap', e = .returned (.pointer (some ⟨p', 0, none⟩)) ∧ Touch nob w w' ∧ w.heap.size ≤ p' ∧ w.heap.size ≤ g ∧ SetAt w' p' g cap' ws size M := by
  obtain ⟨d0, d1, e0, e1⟩ := box2 h.box
  have HH := Lib.hid (fun w' (ht : Touch nob w w') => h.touch ht (fun x => x) (fun x => x))
  have HC := Lib.hid (fun w' (ht : Touch nob w w') => show Touch nob w w' ∧ w'.cell? ⟨p, 0, none⟩ = some (.slice (some ⟨q, 0, none⟩) ws.length cap) ∧ w'.cell? ⟨p, 1, none⟩ = some (.int .i64 size) from
    have hb := box2 (h.touch ht (fun x => x) (fun x => x)).box
    ⟨ht, hb.1, hb.2.1⟩)
  clear h
  go_enter Tryz.func61, Tryz.ntmps61
  go_wp2_with fail
  go_region_held3 (fun w' => Touch nob w w' ∧ w'.cell? ⟨p, 0, none⟩ = some (.slice (some ⟨q, 0, none⟩) ws.length cap) ∧ w'.cell? ⟨p, 1, none⟩ = some (.int .i64 size)) (first | exact HC.out _ (by first | assumption | repeat (first | with_reducible exact Touch.refl _ _ | with_reducible assumption | with_reducible apply Touch.alloc | with_reducible apply Touch.drewN | with_reducible apply Touch.drew | with_reducible refine Touch.setCell ?_ (.inr (by first | omega | (simp; done) | (simp; omega))) _))) (first | (go_at_call 107; refine (clone_words (HH.out _ (by repeat (first | with_reducible exact Touch.refl _ _ | with_reducible assumption | with_reducible apply Touch.alloc | with_reducible apply Touch.drewN | with_reducible apply Touch.drew | with_reducible refine Touch.setCell ?_ (.inr (by first | omega | (simp; done) | (simp; omega))) _))).row (words_le (HH.out _ (by repeat (first | with_reducible exact Touch.refl _ _ | with_reducible assumption | with_reducible apply Touch.alloc | with_reducible apply Touch.drewN | with_reducible apply Touch.drew | with_reducible refine Touch.setCell ?_ (.inr (by first | omega | (simp; done) | (simp; omega))) _))))).mono ?_; rintro e w1 ⟨g, cap', rfl, h1, h2, h3⟩; have hT1 := Touch.trans (S := nob) (show Touch nob w _ by repeat (first | with_reducible exact Touch.refl _ _ | with_reducible assumption | with_reducible apply Touch.alloc | with_reducible apply Touch.drewN | with_reducible apply Touch.drew | with_reducible refine Touch.setCell ?_ (.inr (by first | omega | (simp; done) | (simp; omega))) _)) h1))
  go_wp2
  go_ret
  have hS := HH.out w (Touch.refl _ _)
  exact ⟨w1.heap.size, g, cap', rfl, hT1.alloc _, h1.size, h2, ⟨World.alloc_heap_new w1 _, h3.touch ((Touch.refl nob _).alloc _) (fun x => x), hS.rep, hS.le⟩⟩
theorem set_Copy_nil (w : World) : Calls Tryz.prog 61 #[.pointer none] w fun e w' => e = .returned (.pointer none) ∧ w = w' := by
  go_enter Tryz.func61, Tryz.ntmps61
  go_wp2
  go_ret
  exact ⟨rfl, rfl⟩
end Go.Proofs.YtflhjbmoncbomaaGreatDoor
