/- Clone, Dump, Copy, walked. Conditions: none beyond what each says. -/
import Derived.Test.YthdlgffpcfjbiaaArena
import Derived.Deep.RegionHeld3
namespace Go.Proofs.Ythdlgffpcfjbiaa
open Go.RowKit

theorem clone_u64 (q cap : Nat) (ws : List Int) (w : World) (h : RowAt w q 23 cap (ws.map (.int .u64))) (h1 : 1 ≤ ws.length) (h2 : ws.length ≤ 1048576) :
    Calls Try.prog 60 #[.slice (some ⟨q, 0, none⟩) ws.length cap] w fun e w' => ∃ g cap', e = .returned (.slice (some ⟨g, 0, none⟩) ws.length cap') ∧ Touch nob w w' ∧ w.heap.size ≤ g ∧ RowAt w' g 23 cap' (ws.map (.int .u64)) := by
  obtain ⟨i0, hi, hz0, hz1, hz2⟩ := info_parts info_u64
  have hq := h.lt
  have HC := Lib.hid (fun j u (hj : (ws.map (Value.int .u64))[j]? = some u) => show w.cell? ⟨q, j, none⟩ = some u by
    obtain ⟨hl, rfl⟩ := List.getElem?_eq_some_iff.1 hj
    exact h.cell hl)
  clear h
  go_enter Try.func60, Try.ntmps60
  have hsn : ∀ (a : Addr) (l c : Nat) (w : World), (binOp .eql 56 (.slice (some a) l c) (.slice none 0 0)).run Try.prog w = .ok (.bool false) w := fun _ _ _ _ => by kernel_rfl
  go_wp2_with (at_builtin; refine wpList_append_grows _ rfl (.tmp 5) (.tmp 6) 56 rfl 23 i0 (.int .u64 0) 1 8 Try.underlying56 hi hz0 hz1 hz2 rfl (by decide) _ 0 0 [] rfl (by intro h; exact ⟨rfl, rfl⟩) rfl (by intro _ _ j u hj; simp at hj) ⟨q, 0, none⟩ ws.length cap (ws.map (.int .u64)) rfl (by simp) ?c1 (ints_oneCell _ _) (by omega) (by unfold maxLen; omega) (by omega) ?_; rotate_right; intro v1 w1 hown hgrow; have HX := Lib.hid (And.intro hown hgrow); clear hown hgrow)
  case c1 =>
    intro j u hj
    have h0 := HC.out j u hj
    rw [Addr.add_lit, Nat.zero_add]
    exact (World.cell?_of_block (a := ⟨q, j, none⟩) (Below.heap_alloc _ _ _ hq)).trans h0
  go_ret
  obtain ⟨hown, hgrow⟩ := HX.out
  simp only [Nat.zero_add, List.nil_append] at hown
  obtain ⟨g, cap', rfl, hg, hr, _⟩ := RowAt.of_owns_some hown (by omega)
  exact ⟨g, cap', rfl, Touch.grown ((Touch.refl nob w).alloc _) hgrow (fun _ h => by cases h), by rw [World.size_alloc] at hg; omega, hr⟩

theorem arena_Dump (p q cap : Nat) (ws : List Int) (lo st : Int) (w : World) (h : ArenaAt w p q cap ws lo st) :
    Calls Try.prog 35 #[.pointer (some ⟨p, 0, none⟩)] w fun e w' => ∃ g cap', e = .returned (.slice (some ⟨g, 0, none⟩) ws.length cap') ∧ Touch nob w w' ∧ w.heap.size ≤ g ∧ RowAt w' g 23 cap' (ws.map (.int .u64)) := by
  obtain ⟨d0, d1, d2, e0, e1, e2⟩ := box3 h.box
  have H := Lib.hid h
  clear h
  go_enter Try.func35, Try.ntmps35
  go_wp2_with (go_at_call 60; refine (clone_u64 q cap ws w H.out.row H.out.len.1 H.out.len.2).mono ?_; rintro e w1 ⟨g, cap', rfl, h1, h2, h3⟩)
  go_ret
  exact ⟨g, cap', rfl, h1, h2, h3⟩

theorem arena_Copy (p q cap : Nat) (ws : List Int) (lo st : Int) (w : World) (h : ArenaAt w p q cap ws lo st) :
    Calls Try.prog 38 #[.pointer (some ⟨p, 0, none⟩)] w fun e w' => ∃ p' g cap', e = .returned (.pointer (some ⟨p', 0, none⟩)) ∧ Touch nob w w' ∧ w.heap.size ≤ g ∧ w.heap.size ≤ p' ∧ ArenaAt w' p' g cap' ws lo st := by
  obtain ⟨d0, d1, d2, e0, e1, e2⟩ := box3 h.box
  have HH := Lib.hid (fun w' (ht : Touch nob w w') => h.touch ht (fun x => x) (fun x => x))
  have HC := Lib.hid (fun w' (ht : Touch nob w w') => show Touch nob w w' ∧ w'.cell? ⟨p, 1, none⟩ = some (.int .i64 lo) ∧ w'.cell? ⟨p, 2, none⟩ = some (.int .i64 st) from
    have hb := box3 (h.touch ht (fun x => x) (fun x => x)).box
    ⟨ht, hb.2.1, hb.2.2.1⟩)
  clear h
  go_enter Try.func38, Try.ntmps38
  go_wp2_with fail
  go_region_held3 (fun w' => Touch nob w w' ∧ w'.cell? ⟨p, 1, none⟩ = some (.int .i64 lo) ∧ w'.cell? ⟨p, 2, none⟩ = some (.int .i64 st)) (first | exact HC.out _ (by first | assumption | repeat (first | with_reducible exact Touch.refl _ _ | with_reducible assumption | with_reducible apply Touch.alloc | with_reducible apply Touch.drewN | with_reducible apply Touch.drew | with_reducible refine Touch.setCell ?_ (.inr (by first | omega | (simp; done) | (simp; omega))) _))) (first | (go_at_call 35; refine (arena_Dump p q cap ws lo st _ (HH.out _ (by repeat (first | with_reducible exact Touch.refl _ _ | with_reducible assumption | with_reducible apply Touch.alloc | with_reducible apply Touch.drewN | with_reducible apply Touch.drew | with_reducible refine Touch.setCell ?_ (.inr (by first | omega | (simp; done) | (simp; omega))) _)))).mono ?_; rintro e w1 ⟨g, cap', rfl, h1, h2, h3⟩; have hT1 := Touch.trans (S := nob) (show Touch nob w _ by repeat (first | with_reducible exact Touch.refl _ _ | with_reducible assumption | with_reducible apply Touch.alloc | with_reducible apply Touch.drewN | with_reducible apply Touch.drew | with_reducible refine Touch.setCell ?_ (.inr (by first | omega | (simp; done) | (simp; omega))) _)) h1))
  go_wp2
  go_ret
  exact ⟨w1.heap.size, g, cap', rfl, hT1.alloc _, h2, h1.size, ⟨World.alloc_heap_new w1 _, h3.touch ((Touch.refl nob _).alloc _) (fun x => x), (HH.out w (Touch.refl _ _)).len⟩⟩
end Go.Proofs.Ythdlgffpcfjbiaa
