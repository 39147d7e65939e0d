/- Of a heap that isn't there nothing comes: walked. Conditions: none. -/
import Derived.Test.YtflhjbmoncbomaaGreatDoorHpP
import Derived.Test.YtflhjbmoncbomaaGreatDoorHp7
namespace Go.Proofs.YtflhjbmoncbomaaGreatDoor
open Go.RowKit

theorem heap_nil_Take (n : Int) (w : World) : Calls Tryz.prog 36 #[.pointer none, .int .i64 n] w fun e w' => e = .returned (.tuple #[.int .i64 0, .int .i64 11]) ∧ w = w' := by
  go_enter Tryz.func36, Tryz.ntmps36
  go_wp2
  go_ret2
  exact ⟨rfl, rfl⟩
theorem heap_nil_Assign (n : Int) (w : World) : Calls Tryz.prog 37 #[.pointer none, .int .i64 n] w fun e w' => e = .returned (.tuple #[.slice none 0 0, .int .i64 11]) ∧ w = w' := by
  go_enter Tryz.func37, Tryz.ntmps37
  go_wp2
  go_ret2
  exact ⟨rfl, rfl⟩
theorem heap_nil_Color (n : Int) (w : World) : Calls Tryz.prog 21 #[.pointer none, .int .i64 n] w fun e w' => e = .returned (.tuple #[.int .i64 0, .int .i64 11]) ∧ w = w' := by
  go_enter Tryz.func21, Tryz.ntmps21
  go_wp2
  go_ret2
  exact ⟨rfl, rfl⟩
theorem heap_nil_Cell (n : Int) (w : World) : Calls Tryz.prog 24 #[.pointer none, .int .i64 n] w fun e w' => e = .returned (.tuple #[.int .i64 0, .int .i64 11]) ∧ w = w' := by
  go_enter Tryz.func24, Tryz.ntmps24
  go_wp2
  go_ret2
  exact ⟨rfl, rfl⟩
theorem heap_nil_Make (n a : Int) (w : World) : Calls Tryz.prog 39 #[.pointer none, .int .i64 n, .int .i64 a] w fun e w' => e = .returned (.tuple #[.int .i64 0, .int .i64 11]) ∧ w = w' := by
  go_enter Tryz.func39, Tryz.ntmps39
  go_wp2
  go_ret2
  exact ⟨rfl, rfl⟩
theorem heap_nil_Paint (n a : Int) (w : World) : Calls Tryz.prog 38 #[.pointer none, .int .i64 n, .int .i64 a] w fun e w' => e = .returned (.tuple #[.bool false, .int .i64 11]) ∧ w = w' := by
  go_enter Tryz.func38, Tryz.ntmps38
  go_wp2
  go_ret2
  exact ⟨rfl, rfl⟩
theorem heap_nil_Put (n : Int) (w : World) : Calls Tryz.prog 40 #[.pointer none, .int .i64 n] w fun e w' => e = .returned (.int .i64 11) ∧ w = w' := by
  go_enter Tryz.func40, Tryz.ntmps40
  go_wp2
  go_ret
  exact ⟨rfl, rfl⟩
theorem heap_nil_Begin (n a : Int) (w : World) : Calls Tryz.prog 41 #[.pointer none, .int .i64 n, .int .i64 a] w fun e w' => e = .returned (.int .i64 11) ∧ w = w' := by
  go_enter Tryz.func41, Tryz.ntmps41
  go_wp2
  go_ret
  exact ⟨rfl, rfl⟩
theorem heap_nil_Bear (n a : Int) (w : World) : Calls Tryz.prog 42 #[.pointer none, .int .i64 n, .int .i64 a] w fun e w' => e = .returned (.int .i64 11) ∧ w = w' := by
  go_enter Tryz.func42, Tryz.ntmps42
  go_wp2
  go_ret
  exact ⟨rfl, rfl⟩
theorem heap_nil_Free (n : Int) (w : World) : Calls Tryz.prog 43 #[.pointer none, .int .i64 n] w fun e w' => e = .returned (.int .i64 11) ∧ w = w' := by
  go_enter Tryz.func43, Tryz.ntmps43
  go_wp2
  go_ret
  exact ⟨rfl, rfl⟩
theorem heap_nil_Is (n : Int) (w : World) : Calls Tryz.prog 23 #[.pointer none, .int .i64 n] w fun e w' => e = .returned (.bool false) ∧ w = w' := by
  go_enter Tryz.func23, Tryz.ntmps23
  go_wp2
  go_ret
  exact ⟨rfl, rfl⟩
theorem heap_nil_Table  (w : World) : Calls Tryz.prog 47 #[.pointer none] w fun e w' => e = .returned (.pointer none) ∧ w = w' := by
  go_enter Tryz.func47, Tryz.ntmps47
  go_wp2
  go_ret
  exact ⟨rfl, rfl⟩
theorem heap_nil_Objects  (w : World) : Calls Tryz.prog 48 #[.pointer none] w fun e w' => e = .returned (.slice none 0 0) ∧ w = w' := by
  go_enter Tryz.func48, Tryz.ntmps48
  go_wp2
  go_ret
  exact ⟨rfl, rfl⟩
theorem heap_nil_Frees (n : Int) (w : World) : Calls Tryz.prog 49 #[.pointer none, .int .i64 n] w fun e w' => e = .returned (.slice none 0 0) ∧ w = w' := by
  go_enter Tryz.func49, Tryz.ntmps49
  go_wp2
  go_ret
  exact ⟨rfl, rfl⟩
theorem heap_nil_SetCell (n a : Int) (w : World) : Calls Tryz.prog 45 #[.pointer none, .int .i64 n, .int .i64 a] w fun e w' => e = .returned (.int .i64 11) ∧ w = w' := by
  go_enter Tryz.func45, Tryz.ntmps45
  go_wp2_with (go_at_call 24; fail)
  refine (heap_nil_Cell n w).mono ?_
  rintro e w1 ⟨rfl, rfl⟩
  go_wp2
  go_ret
  exact ⟨rfl, rfl⟩
theorem heap_nil_object (a : Int) (cl : Value) (w : World) : Calls Tryz.prog 71 #[.pointer none, .int .i64 a, cl] w fun e w' => e = .returned (.int .i64 11) ∧ w = w' := by
  go_enter Tryz.func71, Tryz.ntmps71
  go_wp2
  go_ret
  exact ⟨rfl, rfl⟩
theorem heap_nil_Fields (a : Int) (w : World) : Calls Tryz.prog 17 #[.pointer none, .int .i64 a] w fun e w' => e = .returned (.tuple #[.int .i64 0, .int .i64 11]) ∧ Touch nob w w' := by
  have hmf := hmkf
  go_enter Tryz.func17, Tryz.ntmps17
  go_wp2_with (go_at_call 71; fail)
  refine (heap_nil_object _ _ _).mono ?_
  rintro e w1 ⟨rfl, rfl⟩
  go_wp2
  go_ret2
  exact ⟨rfl, by (repeat (first | with_reducible exact Touch.refl _ _ | with_reducible assumption | with_reducible apply Touch.alloc | with_reducible apply Touch.drewN | with_reducible apply Touch.drew | with_reducible refine Touch.setCell ?_ (.inr (by first | omega | (simp; done) | (simp; omega))) _))⟩
theorem heap_nil_Load (a f : Int) (w : World) : Calls Tryz.prog 19 #[.pointer none, .int .i64 a, .int .i64 f] w fun e w' => e = .returned (.tuple #[.int .i64 0, .int .i64 11]) ∧ Touch nob w w' := by
  have hmf := hmkf
  obtain ⟨h0, h1, h2, h3⟩ := alloc4 w (Obj.cells #[.pointer none] 28) (Obj.cells #[.int .i64 a] 3) (Obj.cells #[.int .i64 f] 3) (Obj.cells #[.int .u64 0] 113)
  have e0 := one_cell h0
  have e1 := one_cell h1
  have e3 := one_cell h3
  clear h0 h1 h2 h3
  go_enter Tryz.func19, Tryz.ntmps19
  go_wp2_with (go_at_call 71; fail)
  refine (heap_nil_object _ _ _).mono ?_
  rintro e w1 ⟨rfl, rfl⟩
  go_wp2
  go_ret2
  exact ⟨rfl, by (repeat (first | with_reducible exact Touch.refl _ _ | with_reducible assumption | with_reducible apply Touch.alloc | with_reducible apply Touch.drewN | with_reducible apply Touch.drew | with_reducible refine Touch.setCell ?_ (.inr (by first | omega | (simp; done) | (simp; omega))) _))⟩
theorem heap_nil_Store (a f v : Int) (w : World) : Calls Tryz.prog 44 #[.pointer none, .int .i64 a, .int .i64 f, .int .i64 v] w fun e w' => e = .returned (.int .i64 11) ∧ Touch nob w w' := by
  have hmf := hmkf
  obtain ⟨h0, h1, h2, h3⟩ := alloc4 w (Obj.cells #[.pointer none] 28) (Obj.cells #[.int .i64 a] 3) (Obj.cells #[.int .i64 f] 3) (Obj.cells #[.int .i64 v] 3)
  have e0 := one_cell h0
  have e1 := one_cell h1
  clear h0 h1 h2 h3
  go_enter Tryz.func44, Tryz.ntmps44
  go_wp2_with (go_at_call 71; fail)
  refine (heap_nil_object _ _ _).mono ?_
  rintro e w1 ⟨rfl, rfl⟩
  go_wp2
  go_ret
  exact ⟨rfl, by (repeat (first | with_reducible exact Touch.refl _ _ | with_reducible assumption | with_reducible apply Touch.alloc | with_reducible apply Touch.drewN | with_reducible apply Touch.drew | with_reducible refine Touch.setCell ?_ (.inr (by first | omega | (simp; done) | (simp; omega))) _))⟩
theorem heap_nil_Hands (w : World) : Calls Tryz.prog 50 #[.pointer none] w fun e w' => e = .returned (.slice none 0 0) ∧ Touch nob w w' := by
  refine (callsIn_wide (n := 0)).1 (callsIn_of_wp_marks Tryz.func50 rfl trivial ?_ rfl)
  simp only [Tryz.ntmps50, List.size_toArray, List.length_cons, List.length_nil, Nat.reduceAdd, Nat.reduceSub, Array.replicate_succ, Array.replicate_zero, List.push_toArray, List.append_toArray, List.nil_append, List.cons_append]
  gi_wp2
  exact ⟨.slice none 0 0, by simp [results, Tryz.f50, go_sem], rfl, by (repeat (first | with_reducible exact Touch.refl _ _ | with_reducible assumption | with_reducible apply Touch.alloc | with_reducible apply Touch.drewN | with_reducible apply Touch.drew | with_reducible refine Touch.setCell ?_ (.inr (by first | omega | (simp; done) | (simp; omega))) _))⟩
theorem heap_nil_Config (w : World) : Calls Tryz.prog 46 #[.pointer none] w fun e w' => e = .returned (CfgV 0 0 0 0 0 0 0) ∧ Touch nob w w' := by
  obtain ⟨W, hW⟩ : ∃ W, W = w.alloc (Obj.cells (CfgRow 0 0 0 0 0 0 0) 23) := ⟨_, rfl⟩
  have hT : Touch nob w W := by rw [hW]; (repeat (first | with_reducible exact Touch.refl _ _ | with_reducible assumption | with_reducible apply Touch.alloc | with_reducible apply Touch.drewN | with_reducible apply Touch.drew | with_reducible refine Touch.setCell ?_ (.inr (by first | omega | (simp; done) | (simp; omega))) _))
  have hbx : W.heap[w.heap.size]? = some (Obj.cells (CfgRow 0 0 0 0 0 0 0) 23) := by rw [hW]; exact World.alloc_heap_new w _
  obtain ⟨k0, k1, k2, k3, k4, k5, k6⟩ := cfg_box hbx (Touch.refl _ _)
  have f0 : ∀ j, W.frozen? ⟨w.heap.size, j, none⟩ = false := fun j => by simp [World.frozen?, hbx]
  have g0 := f0 0; have g1 := f0 1; have g2 := f0 2; have g3 := f0 3; have g4 := f0 4; have g5 := f0 5; have g6 := f0 6
  have HT := Lib.hid (And.intro hT hbx)
  subst hW
  clear hT hbx f0
  go_enter Tryz.func46, Tryz.ntmps46
  go_wp2
  refine bodyPost_ret (v := CfgV 0 0 0 0 0 0 0) (by simp [results, Tryz.results46, go_sem, k0, k1, k2, k3, k4, k5, k6]) rfl ⟨rfl, ?_⟩
  (repeat (first | with_reducible exact Touch.refl _ _ | with_reducible assumption | with_reducible apply Touch.alloc | with_reducible apply Touch.drewN | with_reducible apply Touch.drew | with_reducible refine Touch.setCell ?_ (.inr (by first | omega | (simp; done) | (simp; omega))) _))
end Go.Proofs.YtflhjbmoncbomaaGreatDoor
