/- Sets of numbers: Same, and the law's example, walked. Conditions: none beyond what each says. -/
import Derived.Test.YtjbmpdibjfcafaaDoorSet3
import Derived.Deep.RegionHeld3
namespace Go.Proofs.YtjbmpdibjfcafaaDoor
open Go.RowKit

variable {w : World} {p q cap p' q' cap' : Nat} {ws us : List Nat} {size size' : Nat} {M M' : Nat → Bool}
/-- Whether two sets are the same. -/
def sameB (ws us : List Nat) (size size' : Nat) : Bool := decide (size = size') && decide (ws = us)
theorem words_le (h : SetAt w p q cap ws size M) : ws.length ≤ 1048576 := by have := h.rep.len; have := h.le; omega
set_option maxHeartbeats 1000000 in
theorem set_Same (h : SetAt w p q cap ws size M) (g : SetAt w p' q' cap' us size' M') :
    Calls Tryd.prog 19 #[.pointer (some ⟨p, 0, none⟩), .pointer (some ⟨p', 0, none⟩)] w fun e w' => e = .returned (.bool (sameB ws us size size')) ∧ Touch nob w w' := by
  obtain ⟨d0, d1, _, _⟩ := box2 h.box
  obtain ⟨c0, c1, _, _⟩ := box2 g.box
  have hle := h.le
  have gle := g.le
  by_cases hs : size = size'
  · have HC := Lib.hid (fun w' (ht : Touch nob w w') => show Touch nob w w' ∧ w'.cell? ⟨p, 0, none⟩ = some (.slice (some ⟨q, 0, none⟩) ws.length cap) ∧ w'.cell? ⟨p, 1, none⟩ = some (.int .i64 size) ∧ w'.cell? ⟨p', 0, none⟩ = some (.slice (some ⟨q', 0, none⟩) us.length cap') ∧ w'.cell? ⟨p', 1, none⟩ = some (.int .i64 size') from
      have hb := box2 (h.touch ht (fun x => x) (fun x => x)).box
      have gb := box2 (g.touch ht (fun x => x) (fun x => x)).box
      ⟨ht, hb.1, hb.2.1, gb.1, gb.2.1⟩)
    have HH := Lib.hid (fun w' (ht : Touch nob w w') => And.intro (h.touch ht (fun x => x) (fun x => x)) (g.touch ht (fun x => x) (fun x => x)))
    have HR : Hid (sameB ws us size size' = decide (ws = us)) := by show _ = _; unfold sameB; rw [decide_eq_true hs]; rfl
    have hss : ((size : Int) == (size' : Int)) = true := by simp; omega
    clear h g
    go_enter Tryd.func19, Tryd.ntmps19
    go_wp2_with fail
    go_region_held3 (fun w' => Touch nob w w' ∧ w'.cell? ⟨p, 0, none⟩ = some (.slice (some ⟨q, 0, none⟩) ws.length cap) ∧ w'.cell? ⟨p, 1, none⟩ = some (.int .i64 size) ∧ w'.cell? ⟨p', 0, none⟩ = some (.slice (some ⟨q', 0, none⟩) us.length cap') ∧ w'.cell? ⟨p', 1, none⟩ = some (.int .i64 size')) (first | exact HC.out _ (by first | assumption | repeat (first | with_reducible exact Touch.refl _ _ | with_reducible assumption | with_reducible apply Touch.alloc | with_reducible apply Touch.drewN | with_reducible apply Touch.drew | with_reducible refine Touch.setCell ?_ (.inr (by first | omega | (simp; done) | (simp; omega))) _))) (first | (go_at_call 63; refine (equal_u64 (HH.out _ (by repeat (first | with_reducible exact Touch.refl _ _ | with_reducible assumption | with_reducible apply Touch.alloc | with_reducible apply Touch.drewN | with_reducible apply Touch.drew | with_reducible refine Touch.setCell ?_ (.inr (by first | omega | (simp; done) | (simp; omega))) _))).1.row (HH.out _ (by repeat (first | with_reducible exact Touch.refl _ _ | with_reducible assumption | with_reducible apply Touch.alloc | with_reducible apply Touch.drewN | with_reducible apply Touch.drew | with_reducible refine Touch.setCell ?_ (.inr (by first | omega | (simp; done) | (simp; omega))) _))).2.row (words_le (HH.out _ (by repeat (first | with_reducible exact Touch.refl _ _ | with_reducible assumption | with_reducible apply Touch.alloc | with_reducible apply Touch.drewN | with_reducible apply Touch.drew | with_reducible refine Touch.setCell ?_ (.inr (by first | omega | (simp; done) | (simp; omega))) _))).1) (words_le (HH.out _ (by repeat (first | with_reducible exact Touch.refl _ _ | with_reducible assumption | with_reducible apply Touch.alloc | with_reducible apply Touch.drewN | with_reducible apply Touch.drew | with_reducible refine Touch.setCell ?_ (.inr (by first | omega | (simp; done) | (simp; omega))) _))).2)).mono ?_; rintro e w1 ⟨rfl, h1⟩; have hT1 := Touch.trans (S := nob) (show Touch nob w _ by repeat (first | with_reducible exact Touch.refl _ _ | with_reducible assumption | with_reducible apply Touch.alloc | with_reducible apply Touch.drewN | with_reducible apply Touch.drew | with_reducible refine Touch.setCell ?_ (.inr (by first | omega | (simp; done) | (simp; omega))) _)) h1))
    all_goals
      go_wp2
      go_ret
      exact ⟨ret_b HR.out.symm, by first | assumption | repeat (first | with_reducible exact Touch.refl _ _ | with_reducible assumption | with_reducible apply Touch.alloc | with_reducible apply Touch.drewN | with_reducible apply Touch.drew | with_reducible refine Touch.setCell ?_ (.inr (by first | omega | (simp; done) | (simp; omega))) _)⟩
  · have hss : ((size : Int) == (size' : Int)) = false := by simp; omega
    have HR : Hid (sameB ws us size size' = false) := by show _ = _; unfold sameB; rw [decide_eq_false hs]; rfl
    clear h g
    go_enter Tryd.func19, Tryd.ntmps19
    go_wp2_with fail
    go_quiet (fail)
    go_wp2
    go_ret
    exact ⟨ret_b HR.out.symm, (Touch.refl _ _).drewN _⟩
end Go.Proofs.YtjbmpdibjfcafaaDoor
