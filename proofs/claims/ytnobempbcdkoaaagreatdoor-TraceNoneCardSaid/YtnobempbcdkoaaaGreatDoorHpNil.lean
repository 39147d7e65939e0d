/- Of a heap that isn't there nothing comes: walked. Conditions: none. -/
import Derived.Test.YtnobempbcdkoaaaGreatDoorHpP
import Derived.Test.YtnobempbcdkoaaaGreatDoorHp7
namespace Go.Proofs.YtnobempbcdkoaaaGreatDoor
open Go.RowKit

theorem heap_nil_Take (n : Int) (w : World) : Calls Tryz.prog 150 #[.pointer none, .int .i64 n] w fun e w' => e = .returned (.tuple #[.int .i64 0, .int .i64 11]) ∧ w = w' := by
  go_enter Tryz.func150, Tryz.ntmps150
  go_wp2
  go_ret2
  exact ⟨rfl, rfl⟩
theorem heap_nil_Assign (n : Int) (w : World) : Calls Tryz.prog 151 #[.pointer none, .int .i64 n] w fun e w' => e = .returned (.tuple #[.slice none 0 0, .int .i64 11]) ∧ w = w' := by
  go_enter Tryz.func151, Tryz.ntmps151
  go_wp2
  go_ret2
  exact ⟨rfl, rfl⟩
theorem heap_nil_Color (n : Int) (w : World) : Calls Tryz.prog 35 #[.pointer none, .int .i64 n] w fun e w' => e = .returned (.tuple #[.int .i64 0, .int .i64 11]) ∧ w = w' := by
  go_enter Tryz.func35, Tryz.ntmps35
  go_wp2
  go_ret2
  exact ⟨rfl, rfl⟩
theorem heap_nil_Make (n a : Int) (w : World) : Calls Tryz.prog 85 #[.pointer none, .int .i64 n, .int .i64 a] w fun e w' => e = .returned (.tuple #[.int .i64 0, .int .i64 11]) ∧ w = w' := by
  go_enter Tryz.func85, Tryz.ntmps85
  go_wp2
  go_ret2
  exact ⟨rfl, rfl⟩
theorem heap_nil_Paint (n a : Int) (w : World) : Calls Tryz.prog 77 #[.pointer none, .int .i64 n, .int .i64 a] w fun e w' => e = .returned (.tuple #[.bool false, .int .i64 11]) ∧ w = w' := by
  go_enter Tryz.func77, Tryz.ntmps77
  go_wp2
  go_ret2
  exact ⟨rfl, rfl⟩
theorem heap_nil_Put (n : Int) (w : World) : Calls Tryz.prog 153 #[.pointer none, .int .i64 n] w fun e w' => e = .returned (.int .i64 11) ∧ w = w' := by
  go_enter Tryz.func153, Tryz.ntmps153
  go_wp2
  go_ret
  exact ⟨rfl, rfl⟩
theorem heap_nil_Begin (n a : Int) (w : World) : Calls Tryz.prog 124 #[.pointer none, .int .i64 n, .int .i64 a] w fun e w' => e = .returned (.int .i64 11) ∧ w = w' := by
  go_enter Tryz.func124, Tryz.ntmps124
  go_wp2
  go_ret
  exact ⟨rfl, rfl⟩
theorem heap_nil_Bear (n a : Int) (w : World) : Calls Tryz.prog 125 #[.pointer none, .int .i64 n, .int .i64 a] w fun e w' => e = .returned (.int .i64 11) ∧ w = w' := by
  go_enter Tryz.func125, Tryz.ntmps125
  go_wp2
  go_ret
  exact ⟨rfl, rfl⟩
theorem heap_nil_Free (n : Int) (w : World) : Calls Tryz.prog 87 #[.pointer none, .int .i64 n] w fun e w' => e = .returned (.int .i64 11) ∧ w = w' := by
  go_enter Tryz.func87, Tryz.ntmps87
  go_wp2
  go_ret
  exact ⟨rfl, rfl⟩
theorem heap_nil_Is (n : Int) (w : World) : Calls Tryz.prog 57 #[.pointer none, .int .i64 n] w fun e w' => e = .returned (.bool false) ∧ w = w' := by
  go_enter Tryz.func57, Tryz.ntmps57
  go_wp2
  go_ret
  exact ⟨rfl, rfl⟩
theorem heap_nil_Objects  (w : World) : Calls Tryz.prog 19 #[.pointer none] w fun e w' => e = .returned (.slice none 0 0) ∧ w = w' := by
  go_enter Tryz.func19, Tryz.ntmps19
  go_wp2
  go_ret
  exact ⟨rfl, rfl⟩
theorem heap_nil_object (a : Int) (cl : Value) (w : World) : Calls Tryz.prog 58 #[.pointer none, .int .i64 a, cl] w fun e w' => e = .returned (.int .i64 11) ∧ w = w' := by
  go_enter Tryz.func58, Tryz.ntmps58
  go_wp2
  go_ret
  exact ⟨rfl, rfl⟩
theorem heap_nil_Fields (a : Int) (w : World) : Calls Tryz.prog 49 #[.pointer none, .int .i64 a] w fun e w' => e = .returned (.tuple #[.int .i64 0, .int .i64 11]) ∧ Touch nob w w' := by
  have hmf := hmkf
  go_enter Tryz.func49, Tryz.ntmps49
  go_wp2_with (go_at_call 58; fail)
  refine (heap_nil_object _ _ _).mono ?_
  rintro e w1 ⟨rfl, rfl⟩
  go_wp2
  go_ret2
  exact ⟨rfl, by (repeat (first | with_reducible exact Touch.refl _ _ | with_reducible assumption | with_reducible apply Touch.alloc | with_reducible apply Touch.drewN | with_reducible apply Touch.drew | with_reducible refine Touch.setCell ?_ (.inr (by first | omega | (simp; done) | (simp; omega))) _))⟩
theorem heap_nil_Load (a f : Int) (w : World) : Calls Tryz.prog 25 #[.pointer none, .int .i64 a, .int .i64 f] w fun e w' => e = .returned (.tuple #[.int .i64 0, .int .i64 11]) ∧ Touch nob w w' := by
  have hmf := hmkf
  obtain ⟨h0, h1, h2, h3⟩ := alloc4 w (Obj.cells #[.pointer none] 31) (Obj.cells #[.int .i64 a] 3) (Obj.cells #[.int .i64 f] 3) (Obj.cells #[.int .u64 0] 112)
  have e0 := one_cell h0
  have e1 := one_cell h1
  have e3 := one_cell h3
  clear h0 h1 h2 h3
  go_enter Tryz.func25, Tryz.ntmps25
  go_wp2_with (go_at_call 58; fail)
  refine (heap_nil_object _ _ _).mono ?_
  rintro e w1 ⟨rfl, rfl⟩
  go_wp2
  go_ret2
  exact ⟨rfl, by (repeat (first | with_reducible exact Touch.refl _ _ | with_reducible assumption | with_reducible apply Touch.alloc | with_reducible apply Touch.drewN | with_reducible apply Touch.drew | with_reducible refine Touch.setCell ?_ (.inr (by first | omega | (simp; done) | (simp; omega))) _))⟩
theorem heap_nil_Store (a f v : Int) (w : World) : Calls Tryz.prog 50 #[.pointer none, .int .i64 a, .int .i64 f, .int .i64 v] w fun e w' => e = .returned (.int .i64 11) ∧ Touch nob w w' := by
  have hmf := hmkf
  obtain ⟨h0, h1, h2, h3⟩ := alloc4 w (Obj.cells #[.pointer none] 31) (Obj.cells #[.int .i64 a] 3) (Obj.cells #[.int .i64 f] 3) (Obj.cells #[.int .i64 v] 3)
  have e0 := one_cell h0
  have e1 := one_cell h1
  clear h0 h1 h2 h3
  go_enter Tryz.func50, Tryz.ntmps50
  go_wp2_with (go_at_call 58; fail)
  refine (heap_nil_object _ _ _).mono ?_
  rintro e w1 ⟨rfl, rfl⟩
  go_wp2
  go_ret
  exact ⟨rfl, by (repeat (first | with_reducible exact Touch.refl _ _ | with_reducible assumption | with_reducible apply Touch.alloc | with_reducible apply Touch.drewN | with_reducible apply Touch.drew | with_reducible refine Touch.setCell ?_ (.inr (by first | omega | (simp; done) | (simp; omega))) _))⟩
theorem heap_nil_Config (w : World) : Calls Tryz.prog 97 #[.pointer none] w fun e w' => e = .returned (CfgV 0 0 0 0 0 0 0) ∧ Touch nob w w' := by
  obtain ⟨W, hW⟩ : ∃ W, W = w.alloc (Obj.cells (CfgRow 0 0 0 0 0 0 0) 23) := ⟨_, rfl⟩
  have hT : Touch nob w W := by rw [hW]; (repeat (first | with_reducible exact Touch.refl _ _ | with_reducible assumption | with_reducible apply Touch.alloc | with_reducible apply Touch.drewN | with_reducible apply Touch.drew | with_reducible refine Touch.setCell ?_ (.inr (by first | omega | (simp; done) | (simp; omega))) _))
  have hbx : W.heap[w.heap.size]? = some (Obj.cells (CfgRow 0 0 0 0 0 0 0) 23) := by rw [hW]; exact World.alloc_heap_new w _
  obtain ⟨k0, k1, k2, k3, k4, k5, k6⟩ := cfg_box hbx (Touch.refl _ _)
  have f0 : ∀ j, W.frozen? ⟨w.heap.size, j, none⟩ = false := fun j => by simp [World.frozen?, hbx]
  have g0 := f0 0; have g1 := f0 1; have g2 := f0 2; have g3 := f0 3; have g4 := f0 4; have g5 := f0 5; have g6 := f0 6
  have HT := Lib.hid (And.intro hT hbx)
  subst hW
  clear hT hbx f0
  go_enter Tryz.func97, Tryz.ntmps97
  go_wp2
  refine bodyPost_ret (v := CfgV 0 0 0 0 0 0 0) (by simp [results, Tryz.results97, go_sem, k0, k1, k2, k3, k4, k5, k6]) rfl ⟨rfl, ?_⟩
  (repeat (first | with_reducible exact Touch.refl _ _ | with_reducible assumption | with_reducible apply Touch.alloc | with_reducible apply Touch.drewN | with_reducible apply Touch.drew | with_reducible refine Touch.setCell ?_ (.inr (by first | omega | (simp; done) | (simp; omega))) _))
end Go.Proofs.YtnobempbcdkoaaaGreatDoor
