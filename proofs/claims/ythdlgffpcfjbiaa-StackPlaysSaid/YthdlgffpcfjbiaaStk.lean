/- The stack by what it holds, over a world that was there ahead of it. Conditions: none beyond what each says. -/
import Derived.Test.YthdlgffpcfjbiaaStack2
import Derived.Test.YthdlgffpcfjbiaaStack3
import Derived.OpenShut
namespace Go.Proofs.Ythdlgffpcfjbiaa
open Go.RowKit

/-- Since world w nothing has turned but what is new; and there is a stack of what is new. -/
def Stk (w wr : World) (p : Nat) (xs : List Int) (room : Int) (over : Bool) : Prop :=
  Touch nob w wr ∧ ∃ F v, StackAt wr p F v xs room over ∧ ∀ b, F b → w.heap.size ≤ b
theorem Stk.touch {w wr w' : World} {p : Nat} {xs : List Int} {room : Int} {over : Bool} (h : Stk w wr p xs room over) (ht : Touch nob wr w') : Stk w w' p xs room over := by
  obtain ⟨h1, F, v, h2, h3⟩ := h
  exact ⟨h1.trans ht, F, v, h2.touch ht (fun _ _ x => x), h3⟩
variable {w wr : World} {p : Nat} {xs : List Int} {room : Int} {over : Bool}

theorem stk_New (n : Int) (h0 : 1 ≤ n) (h1 : n ≤ 4096) (w : World) :
    Calls Try.prog 19 #[.int .i64 n] w fun e w' => ∃ p, e = .returned (.tuple #[.pointer (some ⟨p, 0, none⟩), .int .i64 0]) ∧ Stk w w' p [] n false :=
  (stack_New_ok n h0 h1 w).mono fun e w' h => ⟨_, h.1, h.2.1, _, _, h.2.2, fun b hb => by rw [hb]; exact Nat.le_refl _⟩
theorem stk_Push_ok (h : Stk w wr p xs room over) (x : Int) (hr : xs.length < room) :
    Calls Try.prog 20 #[.pointer (some ⟨p, 0, none⟩), .int .i64 x] wr fun e w' => e = .returned (.bool true) ∧ Stk w w' p (xs ++ [x]) room over := by
  obtain ⟨h1, F, v, h2, h3⟩ := h
  refine (stack_Push_ok p F v xs room over x wr h2 hr).mono fun e w' ⟨g1, g2, F', v', g3, g4⟩ => ⟨g1, h1.step g2 (fun i hi => .inr (h3 i hi)), F', v', g4, fun b hb => ?_⟩
  rcases g3 b hb with h | h
  · exact h3 b h
  · exact Nat.le_trans h1.size h
theorem stk_Push_no (h : Stk w wr p xs room over) (x : Int) (hr : ¬ xs.length < room) :
    Calls Try.prog 20 #[.pointer (some ⟨p, 0, none⟩), .int .i64 x] wr fun e w' => e = .returned (.bool false) ∧ Stk w w' p xs room true := by
  obtain ⟨h1, F, v, h2, h3⟩ := h
  exact (stack_Push_no p F v xs room over x wr h2 hr).mono fun e w' ⟨g1, g2, g3⟩ => ⟨g1, h1.step g2 (fun i hi => .inr (h3 i hi)), F, v, g3, h3⟩
theorem stk_Len (h : Stk w wr p xs room over) : Calls Try.prog 22 #[.pointer (some ⟨p, 0, none⟩)] wr fun e w' => e = .returned (.int .i64 xs.length) ∧ Stk w w' p xs room over := by
  obtain ⟨h1, F, v, h2, h3⟩ := id h
  exact (stack_Len p F v xs room over wr h2).mono fun e w' g => ⟨g.1, h.touch g.2⟩
theorem stk_Over (h : Stk w wr p xs room over) : Calls Try.prog 21 #[.pointer (some ⟨p, 0, none⟩)] wr fun e w' => e = .returned (.bool over) ∧ Stk w w' p xs room over := by
  obtain ⟨h1, F, v, h2, h3⟩ := id h
  exact (stack_Over p F v xs room over wr h2).mono fun e w' g => ⟨g.1, h.touch g.2⟩
theorem stk_Calm (h : Stk w wr p xs room over) : Calls Try.prog 24 #[.pointer (some ⟨p, 0, none⟩)] wr fun e w' => e = .returned (.bool over) ∧ Stk w w' p xs room false := by
  obtain ⟨h1, F, v, h2, h3⟩ := h
  exact (stack_Calm p F v xs room over wr h2).mono fun e w' ⟨g1, g2, g3⟩ => ⟨g1, h1.step g2 (fun i hi => .inr (h3 i hi)), F, v, g3, h3⟩
theorem stk_Pop_no (h : Stk w wr p [] room over) : Calls Try.prog 23 #[.pointer (some ⟨p, 0, none⟩)] wr fun e w' => e = .returned (.tuple #[.int .i64 0, .bool false]) ∧ Stk w w' p [] room over := by
  obtain ⟨h1, F, v, h2, h3⟩ := id h
  exact (stack_Pop_no p F v room over wr h2).mono fun e w' g => ⟨g.1, h.touch g.2⟩
theorem stk_Pop_ok {y : Int} (h : Stk w wr p (xs ++ [y]) room over) : Calls Try.prog 23 #[.pointer (some ⟨p, 0, none⟩)] wr fun e w' => e = .returned (.tuple #[.int .i64 y, .bool true]) ∧ Stk w w' p xs room over := by
  obtain ⟨h1, F, v, h2, h3⟩ := h
  exact (stack_Pop_ok p F v xs y room over wr h2).mono fun e w' ⟨g1, g2, v', g3⟩ => ⟨g1, h1.step g2 (fun i hi => .inr (h3 i hi)), F, v', g3, h3⟩
theorem stk_Pop_any (h : Stk w wr p xs room over) : Calls Try.prog 23 #[.pointer (some ⟨p, 0, none⟩)] wr fun e w' => (∃ y b, e = .returned (.tuple #[.int .i64 y, .bool b])) ∧ Stk w w' p xs.dropLast room over := by
  rcases List.eq_nil_or_concat xs with rfl | ⟨ys, y, rfl⟩
  · exact (stk_Pop_no h).mono fun e w' g => ⟨⟨_, _, g.1⟩, g.2⟩
  · rw [List.concat_eq_append] at h ⊢
    rw [List.dropLast_concat]
    exact (stk_Pop_ok h).mono fun e w' g => ⟨⟨_, _, g.1⟩, g.2⟩
theorem stk_All (h : Stk w wr p xs room over) : Calls Try.prog 26 #[.pointer (some ⟨p, 0, none⟩)] wr fun e w' => ∃ v', e = .returned v' ∧ IntsIn w' v' xs ∧ Touch nob wr w' ∧ Stk w w' p xs room over := by
  obtain ⟨h1, F, v, h2, h3⟩ := id h
  exact (stack_All p F v xs room over wr h2).mono fun e w' ⟨v', g1, g2, g3⟩ => ⟨v', g1, ints_owned g3, g2, h.touch g2⟩

theorem stack_none (w : World) :
    (∀ x, Calls Try.prog 20 #[.pointer none, .int .i64 x] w fun e w' => e = .returned (.bool false) ∧ Touch nob w w') ∧
    (Calls Try.prog 23 #[.pointer none] w fun e w' => e = .returned (.tuple #[.int .i64 0, .bool false]) ∧ Touch nob w w') ∧
    (Calls Try.prog 22 #[.pointer none] w fun e w' => e = .returned (.int .i64 0) ∧ Touch nob w w') ∧
    (Calls Try.prog 21 #[.pointer none] w fun e w' => e = .returned (.bool false) ∧ Touch nob w w') ∧
    (Calls Try.prog 24 #[.pointer none] w fun e w' => e = .returned (.bool false) ∧ Touch nob w w') ∧
    (Calls Try.prog 26 #[.pointer none] w fun e w' => e = .returned (.slice none 0 0) ∧ Touch nob w w') := by
  have hmf := hmkf
  refine ⟨fun x => ?_, ?_, ?_, ?_, ?_, ?_⟩
  · go_enter Try.func20, Try.ntmps20
    go_wp2
    go_ret
    exact ⟨rfl, by repeat (first | with_reducible exact Touch.refl _ _ | with_reducible assumption | with_reducible apply Touch.alloc | with_reducible apply Touch.drewN | with_reducible apply Touch.drew | with_reducible refine Touch.setCell ?_ (.inr (by first | omega | (simp; done) | (simp; omega))) _)⟩
  · go_enter Try.func23, Try.ntmps23
    go_wp2
    go_ret2
    exact ⟨rfl, by repeat (first | with_reducible exact Touch.refl _ _ | with_reducible assumption | with_reducible apply Touch.alloc | with_reducible apply Touch.drewN | with_reducible apply Touch.drew | with_reducible refine Touch.setCell ?_ (.inr (by first | omega | (simp; done) | (simp; omega))) _)⟩
  · go_enter Try.func22, Try.ntmps22
    go_wp2
    go_ret
    exact ⟨rfl, by repeat (first | with_reducible exact Touch.refl _ _ | with_reducible assumption | with_reducible apply Touch.alloc | with_reducible apply Touch.drewN | with_reducible apply Touch.drew | with_reducible refine Touch.setCell ?_ (.inr (by first | omega | (simp; done) | (simp; omega))) _)⟩
  · go_enter Try.func21, Try.ntmps21
    go_wp2
    go_ret
    exact ⟨rfl, by repeat (first | with_reducible exact Touch.refl _ _ | with_reducible assumption | with_reducible apply Touch.alloc | with_reducible apply Touch.drewN | with_reducible apply Touch.drew | with_reducible refine Touch.setCell ?_ (.inr (by first | omega | (simp; done) | (simp; omega))) _)⟩
  · go_enter Try.func24, Try.ntmps24
    go_wp2
    go_ret
    exact ⟨rfl, by repeat (first | with_reducible exact Touch.refl _ _ | with_reducible assumption | with_reducible apply Touch.alloc | with_reducible apply Touch.drewN | with_reducible apply Touch.drew | with_reducible refine Touch.setCell ?_ (.inr (by first | omega | (simp; done) | (simp; omega))) _)⟩
  · go_enter Try.func26, Try.ntmps26
    go_wp2
    go_ret
    exact ⟨rfl, by repeat (first | with_reducible exact Touch.refl _ _ | with_reducible assumption | with_reducible apply Touch.alloc | with_reducible apply Touch.drewN | with_reducible apply Touch.drew | with_reducible refine Touch.setCell ?_ (.inr (by first | omega | (simp; done) | (simp; omega))) _)⟩

theorem law09_awake (w : World) : Calls Try.prog 18 #[] w fun e w' => e = .returned (.bool true) ∧ Touch nob w w' := by
  go_enter Try.func18, Try.ntmps18
  go_wp2_with (go_at_call 19; fail)
  refine (stk_New 1 (by omega) (by omega) _).mono ?_
  rintro e w1 ⟨p, rfl, h1⟩
  go_wp2_with (go_at_call 20; fail)
  refine (stk_Push_ok h1 5 (by simp)).mono ?_
  rintro e w2 ⟨rfl, h2⟩
  go_wp2_with (go_at_call 20; fail)
  refine (stk_Push_no h2 6 (by simp)).mono ?_
  rintro e w3 ⟨rfl, h3⟩
  go_wp2_with (go_at_call 21; fail)
  refine (stk_Over h3).mono ?_
  rintro e w4 ⟨rfl, h4⟩
  go_wp2_with (go_at_call 23; fail)
  refine (stk_Pop_ok (xs := []) h4).mono ?_
  rintro e w5 ⟨rfl, h5⟩
  go_wp2
  go_ret
  exact ⟨rfl, h5.1⟩
end Go.Proofs.Ythdlgffpcfjbiaa
