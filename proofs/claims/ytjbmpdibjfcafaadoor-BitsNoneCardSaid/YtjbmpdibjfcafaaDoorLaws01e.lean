/- The law BitsNone, walked. Conditions: the library's table reads as laid. -/
import Derived.Test.YtjbmpdibjfcafaaDoorLaws01d
namespace Go.Proofs.YtjbmpdibjfcafaaDoor
open Go.RowKit

variable {w wr : World} {p q cap size : Nat} {ws : List Nat} {M : Nat → Bool}
theorem nil_Size (w : World) : Calls Tryd.prog 26 #[.pointer none] w fun e w' => e = .returned (.int .i64 0) ∧ w = w' := by
  go_enter Tryd.func26, Tryd.ntmps26
  go_wp2
  go_ret
  exact ⟨rfl, rfl⟩
theorem nil_may (n : Int) (w : World) : Calls Tryd.prog 62 #[.pointer none, .int .i64 n] w fun e w' => e = .returned (.bool false) ∧ w = w' := by
  by_cases hn : 0 ≤ n
  · go_enter Tryd.func62, Tryd.ntmps62
    go_wp2_with (go_at_call 26; fail)
    refine (nil_Size w).mono ?_
    rintro e w' ⟨rfl, rfl⟩
    go_wp2
    go_ret
    exact ⟨ret_b (by simp; omega), rfl⟩
  · go_enter Tryd.func62, Tryd.ntmps62
    go_wp2
    go_ret
    exact ⟨rfl, rfl⟩
theorem nil_Has (n : Int) (w : World) : Calls Tryd.prog 18 #[.pointer none, .int .i64 n] w fun e w' => e = .returned (.bool false) ∧ w = w' := by
  go_enter Tryd.func18, Tryd.ntmps18
  go_wp2_with (go_at_call 62; fail)
  refine (nil_may n w).mono ?_
  rintro e w' ⟨rfl, rfl⟩
  go_wp2
  go_ret
  exact ⟨rfl, rfl⟩
theorem nil_Put (n : Int) (b : Bool) (w : World) : Calls Tryd.prog 17 #[.pointer none, .int .i64 n, .bool b] w fun e w' => e = .returned (.bool false) ∧ w = w' := by
  go_enter Tryd.func17, Tryd.ntmps17
  go_wp2_with (go_at_call 62; fail)
  refine (nil_may n w).mono ?_
  rintro e w' ⟨rfl, rfl⟩
  go_wp2
  go_ret
  exact ⟨rfl, rfl⟩
theorem nil_Same (w : World) : Calls Tryd.prog 19 #[.pointer none, .pointer none] w fun e w' => e = .returned (.bool true) ∧ w = w' := by
  go_enter Tryd.func19, Tryd.ntmps19
  go_wp2
  go_ret
  exact ⟨rfl, rfl⟩
theorem set_Same_nil (p : Nat) (w : World) : Calls Tryd.prog 19 #[.pointer (some ⟨p, 0, none⟩), .pointer none] w fun e w' => e = .returned (.bool false) ∧ w = w' := by
  go_enter Tryd.func19, Tryd.ntmps19
  go_wp2
  go_ret
  exact ⟨rfl, rfl⟩

set_option maxRecDepth 20000 in
set_option maxHeartbeats 8000000 in
theorem law_BitsNone (z : Int) (_ : (Lit.int .i64 z).wf = true) (n : Int) (_ : (Lit.int .i64 n).wf = true) (w : World) (hTab : Tab w) :
    Calls Tryd.prog 8 #[.int .i64 z, .int .i64 n] w fun e w' => e = .returned (.bool true) ∧ Below w.heap.size w w' := by
  have HT := Lib.hid hTab
  clear hTab
  have awake : ∀ wr, Touch nob w wr → Calls Tryd.prog 15 #[] wr fun e w' => e = .returned (.bool true) ∧ Touch nob w w' := fun wr ht =>
    (law01_awake wr (HT.out.touch ht (fun x => x))).mono fun _ _ g => ⟨g.1, ht.trans g.2⟩
  have HW := Lib.hid awake
  clear awake
  have hz : z < 0 ∨ 2097152 < z ∨ (¬ z < 0 ∧ ¬ 2097152 < z) := by omega
  rcases hz with h | h | ⟨h, h'⟩
  (go_enter Tryd.func8, Tryd.ntmps8
   go_wp2_with (go_at_call 16; fail)
   refine (bits_New_no z (.inl h) w).mono ?_
   rintro e w1 ⟨rfl, rfl⟩
   go_wp2_with (go_at_call 24; fail))
  rotate_left
  (go_enter Tryd.func8, Tryd.ntmps8
   go_wp2_with (go_at_call 16; fail)
   refine (bits_New_no z (.inr h) w).mono ?_
   rintro e w1 ⟨rfl, rfl⟩
   go_wp2_with (go_at_call 24; fail))
  rotate_left
  (go_enter Tryd.func8, Tryd.ntmps8
   go_wp2_with (go_at_call 24; fail))
  rotate_left
  all_goals
    refine (set_Next_nil n w).mono ?_
    rintro e w1 ⟨rfl, rfl⟩
    go_wp2_with (go_at_call 39; fail)
    refine (set_Fill_nil w).mono ?_
    rintro e w2 ⟨⟨v2, rfl⟩, hT2⟩
    have H2 := Lib.hid hT2
    clear hT2
    go_wp2_with (go_at_call 16; fail)
    refine (bits_New_ok 3 (by omega) w2).mono ?_
    rintro e w3 ⟨p, q, cap, ws, rfl, hT3, hp, hq, hS3⟩
    have H3 := Lib.hid (And.intro (H2.out.trans hT3) hS3)
    clear hT3 hp hq hS3
    go_wp2_with (go_at_call 16; fail)
    refine (bits_New_ok 4 (by omega) w3).mono ?_
    rintro e w4 ⟨p', q', cap', us, rfl, hT4, hp', hq', hS4⟩
    have H4 := Lib.hid (And.intro (H3.out.1.trans hT4) (And.intro (H3.out.2.touch hT4 (fun x => x) (fun x => x)) hS4))
    clear hT4 hp' hq' hS4
    go_wp2_with (go_at_call 26; fail)
    refine (nil_Size w4).mono ?_
    rintro e w5 ⟨rfl, rfl⟩
    go_wp2_with (go_at_call 18; fail)
    refine (nil_Has n w4).mono ?_
    rintro e w5 ⟨rfl, rfl⟩
    go_wp2_with (go_at_call 17; fail)
    refine (nil_Put n true w4).mono ?_
    rintro e w5 ⟨rfl, rfl⟩
    go_wp2_with (go_at_call 27; fail)
    refine (set_Count_nil w4).mono ?_
    rintro e w5 ⟨rfl, rfl⟩
    go_wp2_with (go_at_call 29; fail)
    refine (law01_list_nil 9 (HT.out.touch H4.out.1 (fun x => x))).mono ?_
    rintro e w5 ⟨v5, rfl, hT5, hI5⟩
    obtain ⟨ao5, cap5, hv5⟩ := hI5.shape
    rw [List.length_nil] at hv5
    subst hv5
    have H5 := Lib.hid (And.intro (H4.out.1.trans hT5) (And.intro (H4.out.2.1.touch hT5 (fun x => x) (fun x => x)) (H4.out.2.2.touch hT5 (fun x => x) (fun x => x))))
    clear hT5 hI5
    go_wp2_with (go_at_call 38; fail)
    refine (set_Copy_nil w5).mono ?_
    rintro e w6 ⟨rfl, rfl⟩
    go_wp2_with (go_at_call 19; fail)
    refine (nil_Same w5).mono ?_
    rintro e w6 ⟨rfl, rfl⟩
    go_wp2_with (go_at_call 19; fail)
    refine (set_Same_nil p w5).mono ?_
    rintro e w6 ⟨rfl, rfl⟩
    go_wp2_with (go_at_call 19; fail)
    refine (set_Same H5.out.2.1 H5.out.2.2).mono ?_
    rintro e w6 ⟨rfl, hT6⟩
    rw [show sameB ws us 3 4 = false by simp [sameB]]
    have H6 := Lib.hid (H5.out.1.trans hT6)
    clear hT6
    go_wp2_with (go_at_call 15; fail)
    refine (HW.out _ H6.out).mono ?_
    rintro e w7 ⟨rfl, hT7⟩
    go_wp2
    go_ret
    exact ⟨rfl, hT7.below⟩
end Go.Proofs.YtjbmpdibjfcafaaDoor
