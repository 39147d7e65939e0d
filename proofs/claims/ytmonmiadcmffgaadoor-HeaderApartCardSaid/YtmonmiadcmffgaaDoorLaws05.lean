/- The laws of headers, walked. Conditions: the table of sizes reads as laid. -/
import Derived.Test.YtmonmiadcmffgaaDoorHeader
import Derived.Test.YtmonmiadcmffgaaDoorLaws03
namespace Go.Proofs.YtmonmiadcmffgaaDoor
open Go.RowKit

set_option maxHeartbeats 800000 in
theorem law05_awake (w : World) (hS : Sizes w) :
    Calls Tryd.prog 41 #[] w fun e w' => e = .returned (.bool true) ∧ w = w' := by
  have HZ := Lib.hid hS
  clear hS
  have ho : objOk 1 3 = true := by decide
  obtain ⟨f0, f1, f2, f3, f4, f5, f6⟩ := obj_facts ho
  have HF := Lib.hid f1
  have HO := Lib.hid ho
  have H2 := Lib.hid f2
  have H4 := Lib.hid f4
  have H5 := Lib.hid f5
  have HK0 : Hid (kindW 0 = 0) := by show kindW 0 = 0; decide
  have HB : Hid ((0 : Int) < 18446744073709551616) := by show (0 : Int) < _; omega
  clear f1 f2 f3 f4 f5 f6 ho
  go_enter Tryd.func41, Tryd.ntmps41
  go_wp2_with (first | (go_at_call 39; refine (header_Object _ _ _ HZ.out).mono ?_; rintro e w' ⟨rfl, rfl⟩; rw [HO.out]) | (go_at_call 42; refine (header_Parse (hObj 1 3) f0 HF _ HZ.out).mono ?_; rintro e w' ⟨rfl, rfl⟩; rw [H2.out]; simp only [H4.out, H5.out]) | (go_at_call 44; refine (header_Kind 0 (by omega) HB _ HZ.out).mono ?_; rintro e w' ⟨rfl, rfl⟩; rw [HK0.out]))
  go_ret
  exact ⟨rfl, rfl⟩

theorem room_eq (c : Int) (h : isCls c = true) : clsSize c - 1 = clsRoom c := by unfold clsRoom; rw [if_pos h]

set_option maxHeartbeats 800000 in
theorem law_HeaderObjects (c : Int) (_ : (Lit.int .i64 c).wf = true) (n : Int) (_ : (Lit.int .i64 n).wf = true) (w : World) (hS : Sizes w) :
    Calls Tryd.prog 9 #[.int .i64 c, .int .i64 n] w fun e w' => e = .returned (.bool true) ∧ Below w.heap.size w w' := by
  have HZ := Lib.hid hS
  clear hS
  obtain ⟨s0, s1⟩ := clsSize_bd c
  cases hc : isCls c
  · have HC := Lib.hid hc
    have HO : Hid (objOk c n = false) := by show objOk c n = false; unfold objOk; rw [hc]; rfl
    clear hc
    go_enter Tryd.func9, Tryd.ntmps9
    go_wp2_with (first | (go_at_call 39; refine (header_Object _ _ _ HZ.out).mono ?_; rintro e w' ⟨rfl, rfl⟩; rw [HO.out]) | (go_at_call 19; refine (ref03_Is _ _).mono ?_; rintro e w' ⟨rfl, rfl⟩; rw [HC.out]) | (go_at_call 41; refine (law05_awake _ HZ.out).mono ?_; rintro e w' ⟨rfl, rfl⟩))
    go_ret
    exact ⟨rfl, Below.refl _ _⟩
  · have HC := Lib.hid hc
    have HR := Lib.hid (room_eq c hc)
    cases ho : objOk c n
    · have HO := Lib.hid ho
      by_cases h0 : n < 0
      · clear hc ho
        go_enter Tryd.func9, Tryd.ntmps9
        go_wp2_with (first | (go_at_call 39; refine (header_Object _ _ _ HZ.out).mono ?_; rintro e w' ⟨rfl, rfl⟩; rw [HO.out]) | (go_at_call 19; refine (ref03_Is _ _).mono ?_; rintro e w' ⟨rfl, rfl⟩; rw [HC.out]) | (go_at_call 41; refine (law05_awake _ HZ.out).mono ?_; rintro e w' ⟨rfl, rfl⟩))
        go_ret
        exact ⟨rfl, Below.refl _ _⟩
      · have h1 : clsSize c - 1 < n := by
          rw [HR.out]
          unfold objOk at ho; rw [hc] at ho; simp at ho; omega
        clear hc ho
        go_enter Tryd.func9, Tryd.ntmps9
        go_wp2_with (first | (go_at_call 39; refine (header_Object _ _ _ HZ.out).mono ?_; rintro e w' ⟨rfl, rfl⟩; rw [HO.out]) | (go_at_call 19; refine (ref03_Is _ _).mono ?_; rintro e w' ⟨rfl, rfl⟩; rw [HC.out]) | (go_at_call 21; refine (ref03_Size _ _).mono ?_; rintro e w' ⟨rfl, rfl⟩) | (go_at_call 41; refine (law05_awake _ HZ.out).mono ?_; rintro e w' ⟨rfl, rfl⟩))
        go_ret
        exact ⟨rfl, Below.refl _ _⟩
    · have HO := Lib.hid ho
      obtain ⟨_, h0, h1⟩ := objOk_iff.1 ho
      rw [← HR.out] at h1
      obtain ⟨f0, f1, f2, f3, f4, f5, f6⟩ := obj_facts ho
      have HF := Lib.hid f1
      have H2 := Lib.hid f2
      have H3 := Lib.hid f3
      have H4 := Lib.hid f4
      have H5 := Lib.hid f5
      have H6 := Lib.hid f6
      clear f1 f2 f3 f4 f5 f6 ho hc
      go_enter Tryd.func9, Tryd.ntmps9
      go_wp2_with (first | (go_at_call 39; refine (header_Object _ _ _ HZ.out).mono ?_; rintro e w' ⟨rfl, rfl⟩; rw [HO.out]) | (go_at_call 19; refine (ref03_Is _ _).mono ?_; rintro e w' ⟨rfl, rfl⟩; rw [HC.out]) | (go_at_call 21; refine (ref03_Size _ _).mono ?_; rintro e w' ⟨rfl, rfl⟩) | (go_at_call 41; refine (law05_awake _ HZ.out).mono ?_; rintro e w' ⟨rfl, rfl⟩) | (go_at_call 42; refine (header_Parse (hObj c n) f0 HF _ HZ.out).mono ?_; rintro e w' ⟨rfl, rfl⟩; rw [H2.out]; simp only [H4.out, H5.out]) | (go_at_call 43; refine (header_Next (hObj c n) f0 HF _ HZ.out).mono ?_; rintro e w' ⟨rfl, rfl⟩; rw [H3.out]) | (go_at_call 44; refine (header_Kind (hObj c n) f0 HF _ HZ.out).mono ?_; rintro e w' ⟨rfl, rfl⟩; rw [H6.out]))
      go_ret
      exact ⟨rfl, Below.refl _ _⟩

set_option maxHeartbeats 800000 in
theorem law_HeaderLinks (a : Int) (_ : (Lit.int .i64 a).wf = true) (w : World) (hS : Sizes w) :
    Calls Tryd.prog 10 #[.int .i64 a] w fun e w' => e = .returned (.bool true) ∧ Below w.heap.size w w' := by
  have HZ := Lib.hid hS
  clear hS
  cases ho : linkOk a
  · have HO := Lib.hid ho
    rcases (show a < 0 ∨ 1048576 < a by unfold linkOk at ho; simp at ho; omega) with h | h
    all_goals
      clear ho
      go_enter Tryd.func10, Tryd.ntmps10
      go_wp2_with (first | (go_at_call 40; refine (header_Link _ _).mono ?_; rintro e w' ⟨rfl, rfl⟩; rw [HO.out]) | (go_at_call 41; refine (law05_awake _ HZ.out).mono ?_; rintro e w' ⟨rfl, rfl⟩))
      go_ret
      exact ⟨rfl, Below.refl _ _⟩
  · have HO := Lib.hid ho
    obtain ⟨h0, h1⟩ := linkOk_iff.1 ho
    obtain ⟨f0, f1, f2, f3, f4, f6⟩ := link_facts ho
    have HF := Lib.hid f1
    have H2 := Lib.hid f2
    have H3 := Lib.hid f3
    have H4 := Lib.hid f4
    have H6 := Lib.hid f6
    clear f1 f2 f3 f4 f6 ho
    go_enter Tryd.func10, Tryd.ntmps10
    go_wp2_with (first | (go_at_call 40; refine (header_Link _ _).mono ?_; rintro e w' ⟨rfl, rfl⟩; rw [HO.out]) | (go_at_call 41; refine (law05_awake _ HZ.out).mono ?_; rintro e w' ⟨rfl, rfl⟩) | (go_at_call 42; refine (header_Parse (hLink a) f0 HF _ HZ.out).mono ?_; rintro e w' ⟨rfl, rfl⟩; rw [H3.out]) | (go_at_call 43; refine (header_Next (hLink a) f0 HF _ HZ.out).mono ?_; rintro e w' ⟨rfl, rfl⟩; rw [H2.out]; simp only [H4.out]) | (go_at_call 44; refine (header_Kind (hLink a) f0 HF _ HZ.out).mono ?_; rintro e w' ⟨rfl, rfl⟩; rw [H6.out]))
    go_ret
    exact ⟨rfl, Below.refl _ _⟩
end Go.Proofs.YtmonmiadcmffgaaDoor
