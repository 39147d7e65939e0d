/- Sets of numbers: Same, walked. Conditions: none beyond what each says. Sets of numbers: Same, and the law's example, walked. Conditions: none beyond what each says. -/
import Derived.Test.YtjbmpdibjfcafaaDoorSet
import Derived.Deep.RegionHeld3
namespace Go.Proofs.YtjbmpdibjfcafaaDoor
open Go.RowKit

variable {w : World} {p q cap p' q' cap' : Nat} {ws us : List Nat} {size size' : Nat} {M M' : Nat → Bool}
set_option maxHeartbeats 400000 in
theorem equal_u64 (h : RowAt w q 85 cap (u64s ws)) (g : RowAt w q' 85 cap' (u64s us)) (h1 : ws.length ≤ 1048576) (h2 : us.length ≤ 1048576) :
    Calls Tryd.prog 63 #[.slice (some ⟨q, 0, none⟩) ws.length cap, .slice (some ⟨q', 0, none⟩) us.length cap'] w fun e w' => e = .returned (.bool (decide (ws = us))) ∧ Touch nob w w' := by
  have hcap : ws.length ≤ cap := by obtain ⟨_, _, _, hc, _⟩ := id h; rwa [List.length_map] at hc
  have hcap' : us.length ≤ cap' := by obtain ⟨_, _, _, hc, _⟩ := id g; rwa [List.length_map] at hc
  by_cases hl : ws.length = us.length
  · obtain ⟨n, hn⟩ : ∃ n, us.length = n := ⟨_, rfl⟩
    have HL := Lib.hid (And.intro (hl.trans hn) hn)
    rw [hl, hn] at h1 hcap ⊢
    rw [hn] at hcap'
    have H := Lib.hid (And.intro h g)
    clear hl h g hn h2
    go_enter Tryd.func63, Tryd.ntmps63
    go_wp2_with fail
    go_loopw [13] (fun i wr => ∃ k : Nat, k ≤ n ∧ i = .int .i64 k ∧ Touch nob w wr ∧ Hid (ws.take k = us.take k)) (fun i _ => n - (intOf i).toNat)
    case atStart => exact ⟨0, by omega, rfl, Touch.refl _ _, rfl⟩
    case round =>
      obtain ⟨k, hk, rfl, hT, HT⟩ := hrel
      by_cases hlt : k < n
      · have u0 := u64_cell (H.out.1.touch hT (fun x => x)) (i := k) (by rw [HL.out.1]; exact hlt)
        have u1 := u64_cell (H.out.2.touch hT (fun x => x)) (i := k) (by rw [HL.out.2]; exact hlt)
        obtain ⟨x, hx⟩ : ∃ x, ws.getD k 0 = x := ⟨_, rfl⟩
        obtain ⟨y, hy⟩ : ∃ y, us.getD k 0 = y := ⟨_, rfl⟩
        rw [hx] at u0
        rw [hy] at u1
        have HX := Lib.hid (And.intro hx hy)
        have hb : (k : Int) < (n : Int) := by omega
        clear hx hy
        by_cases hxy : x = y
        · subst hxy
          go_wp2_with fail
          go_quiet (fail)
          go_wp2
          go_roundw
          case rel =>
            refine ⟨k + 1, by omega, by go_num, hT.drewN _, ?_⟩
            show _ = _
            have a1 : k < ws.length := by rw [HL.out.1]; exact hlt
            have a2 : k < us.length := by rw [HL.out.2]; exact hlt
            rw [List.take_add_one, List.take_add_one, HT.out, List.getElem?_eq_getElem a1, List.getElem?_eq_getElem a2]
            have b1 := HX.out.1
            have b2 := HX.out.2
            simp [List.getD_eq_getElem?_getD, a1, a2] at b1 b2
            rw [b1, b2]
          case measure => simp [intOf]; omega
        · have hne : ((x : Int) == (y : Int)) = false := by simp; omega
          have hxy' : ¬ (x : Int) = (y : Int) := by omega
          have HW : Hid (decide (ws = us) = false) := by
            show _ = _
            rw [decide_eq_false]
            rintro rfl
            exact hxy (HX.out.1.symm.trans HX.out.2)
          go_wp2_with fail
          go_quiet (fail)
          go_wp2
          go_ret
          exact ⟨ret_b HW.out.symm, hT.drewN _⟩
      · obtain rfl : k = n := by omega
        have HW : Hid (decide (ws = us) = true) := by
          show _ = _
          rw [decide_eq_true]
          have := HT.out
          rwa [List.take_of_length_le (by rw [HL.out.1]; exact Nat.le_refl _), List.take_of_length_le (by rw [HL.out.2]; exact Nat.le_refl _)] at this
        go_wp2
        go_ret
        exact ⟨ret_b HW.out.symm, hT⟩
  · have hl' : ¬ (ws.length : Int) = (us.length : Int) := by omega
    have HW : Hid (decide (ws = us) = false) := by
      show _ = _
      rw [decide_eq_false]
      rintro rfl
      exact hl rfl
    clear h g
    go_enter Tryd.func63, Tryd.ntmps63
    go_wp2
    go_ret
    exact ⟨ret_b HW.out.symm, Touch.refl _ _⟩
end Go.Proofs.YtjbmpdibjfcafaaDoor
namespace Go.Proofs.YtjbmpdibjfcafaaDoor
open Go.RowKit

variable {w : World} {p q cap p' q' cap' : Nat} {ws us : List Nat} {size size' : Nat} {M M' : Nat → Bool}
/-- Whether two sets are the same. -/
def sameB (ws us : List Nat) (size size' : Nat) : Bool := decide (size = size') && decide (ws = us)
theorem words_le (h : SetAt w p q cap ws size M) : ws.length ≤ 1048576 := by have := h.rep.len; have := h.le; omega
set_option maxHeartbeats 1000000 in
theorem set_Same (h : SetAt w p q cap ws size M) (g : SetAt w p' q' cap' us size' M') :
    Calls Tryd.prog 19 #[.pointer (some ⟨p, 0, none⟩), .pointer (some ⟨p', 0, none⟩)] w fun e w' => e = .returned (.bool (sameB ws us size size')) ∧ Touch nob w w' := by
  obtain ⟨d0, d1, _, _⟩ := box2 h.box
  obtain ⟨c0, c1, _, _⟩ := box2 g.box
  have hle := h.le
  have gle := g.le
  by_cases hs : size = size'
  · have HC := Lib.hid (fun w' (ht : Touch nob w w') => show Touch nob w w' ∧ w'.cell? ⟨p, 0, none⟩ = some (.slice (some ⟨q, 0, none⟩) ws.length cap) ∧ w'.cell? ⟨p, 1, none⟩ = some (.int .i64 size) ∧ w'.cell? ⟨p', 0, none⟩ = some (.slice (some ⟨q', 0, none⟩) us.length cap') ∧ w'.cell? ⟨p', 1, none⟩ = some (.int .i64 size') from
      have hb := box2 (h.touch ht (fun x => x) (fun x => x)).box
      have gb := box2 (g.touch ht (fun x => x) (fun x => x)).box
      ⟨ht, hb.1, hb.2.1, gb.1, gb.2.1⟩)
    have HH := Lib.hid (fun w' (ht : Touch nob w w') => And.intro (h.touch ht (fun x => x) (fun x => x)) (g.touch ht (fun x => x) (fun x => x)))
    have HR : Hid (sameB ws us size size' = decide (ws = us)) := by show _ = _; unfold sameB; rw [decide_eq_true hs]; rfl
    have hss : ((size : Int) == (size' : Int)) = true := by simp; omega
    clear h g
    go_enter Tryd.func19, Tryd.ntmps19
    go_wp2_with fail
    go_region_held3 (fun w' => Touch nob w w' ∧ w'.cell? ⟨p, 0, none⟩ = some (.slice (some ⟨q, 0, none⟩) ws.length cap) ∧ w'.cell? ⟨p, 1, none⟩ = some (.int .i64 size) ∧ w'.cell? ⟨p', 0, none⟩ = some (.slice (some ⟨q', 0, none⟩) us.length cap') ∧ w'.cell? ⟨p', 1, none⟩ = some (.int .i64 size')) (first | exact HC.out _ (by first | assumption | repeat (first | with_reducible exact Touch.refl _ _ | with_reducible assumption | with_reducible apply Touch.alloc | with_reducible apply Touch.drewN | with_reducible apply Touch.drew | with_reducible refine Touch.setCell ?_ (.inr (by first | omega | (simp; done) | (simp; omega))) _))) (first | (go_at_call 63; refine (equal_u64 (HH.out _ (by repeat (first | with_reducible exact Touch.refl _ _ | with_reducible assumption | with_reducible apply Touch.alloc | with_reducible apply Touch.drewN | with_reducible apply Touch.drew | with_reducible refine Touch.setCell ?_ (.inr (by first | omega | (simp; done) | (simp; omega))) _))).1.row (HH.out _ (by repeat (first | with_reducible exact Touch.refl _ _ | with_reducible assumption | with_reducible apply Touch.alloc | with_reducible apply Touch.drewN | with_reducible apply Touch.drew | with_reducible refine Touch.setCell ?_ (.inr (by first | omega | (simp; done) | (simp; omega))) _))).2.row (words_le (HH.out _ (by repeat (first | with_reducible exact Touch.refl _ _ | with_reducible assumption | with_reducible apply Touch.alloc | with_reducible apply Touch.drewN | with_reducible apply Touch.drew | with_reducible refine Touch.setCell ?_ (.inr (by first | omega | (simp; done) | (simp; omega))) _))).1) (words_le (HH.out _ (by repeat (first | with_reducible exact Touch.refl _ _ | with_reducible assumption | with_reducible apply Touch.alloc | with_reducible apply Touch.drewN | with_reducible apply Touch.drew | with_reducible refine Touch.setCell ?_ (.inr (by first | omega | (simp; done) | (simp; omega))) _))).2)).mono ?_; rintro e w1 ⟨rfl, h1⟩; have hT1 := Touch.trans (S := nob) (show Touch nob w _ by repeat (first | with_reducible exact Touch.refl _ _ | with_reducible assumption | with_reducible apply Touch.alloc | with_reducible apply Touch.drewN | with_reducible apply Touch.drew | with_reducible refine Touch.setCell ?_ (.inr (by first | omega | (simp; done) | (simp; omega))) _)) h1))
    all_goals
      go_wp2
      go_ret
      exact ⟨ret_b HR.out.symm, by first | assumption | repeat (first | with_reducible exact Touch.refl _ _ | with_reducible assumption | with_reducible apply Touch.alloc | with_reducible apply Touch.drewN | with_reducible apply Touch.drew | with_reducible refine Touch.setCell ?_ (.inr (by first | omega | (simp; done) | (simp; omega))) _)⟩
  · have hss : ((size : Int) == (size' : Int)) = false := by simp; omega
    have HR : Hid (sameB ws us size size' = false) := by show _ = _; unfold sameB; rw [decide_eq_false hs]; rfl
    clear h g
    go_enter Tryd.func19, Tryd.ntmps19
    go_wp2_with fail
    go_quiet (fail)
    go_wp2
    go_ret
    exact ⟨ret_b HR.out.symm, (Touch.refl _ _).drewN _⟩
end Go.Proofs.YtjbmpdibjfcafaaDoor
