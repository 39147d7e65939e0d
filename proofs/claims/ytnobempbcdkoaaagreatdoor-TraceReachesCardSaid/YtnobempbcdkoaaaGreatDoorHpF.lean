/- The heap's slots in hand, its table, its config, walked. Conditions: the tables of limits and of sizes read as laid. -/
import Derived.Test.YtnobempbcdkoaaaGreatDoorHpD
import Derived.Test.YtnobempbcdkoaaaGreatDoorBlk
namespace Go.Proofs.YtnobempbcdkoaaaGreatDoor
open Go.RowKit Go.Shelf
attribute [local go_sem] Oper.semAt_some

variable {W w w' : World} {A : HA} {c : Cf} {S : HS} {H : Nat → List Nat}
theorem hp_Config (h : HpI W w A c S H) :
    Calls Tryz.prog 97 #[.pointer (some ⟨A.h, 0, none⟩)] w fun e w' => e = .returned c.V ∧ Touch nob w w' := by
  obtain ⟨W1, hW1⟩ : ∃ W1, W1 = w.alloc (Obj.cells (CfgRow 0 0 0 0 0 0 0) 23) := ⟨_, rfl⟩
  have hT : Touch nob w W1 := by rw [hW1]; (repeat (first | with_reducible exact Touch.refl _ _ | with_reducible assumption | with_reducible apply Touch.alloc | with_reducible apply Touch.drewN | with_reducible apply Touch.drew | with_reducible refine Touch.setCell ?_ (.inr (by first | omega | (simp; done) | (simp; omega))) _))
  have hbx : W1.heap[w.heap.size]? = some (Obj.cells (CfgRow 0 0 0 0 0 0 0) 23) := by rw [hW1]; exact World.alloc_heap_new w _
  obtain ⟨b0, hb0⟩ : ∃ b, b = w.heap.size := ⟨_, rfl⟩
  rw [← hb0] at hbx
  obtain ⟨cx, -, d1, -, -, -, -, -⟩ := (h.old hT).at'.cells
  obtain ⟨ct, hb⟩ := (h.old hT).at'.ls.tb
  have HC := Lib.hid (blk_Config hb)
  have HT1 := Lib.hid (And.intro hT (And.intro hbx (show w.heap.size ≤ b0 by omega)))
  clear h hb hT hbx
  rw [hW1] at d1
  go_enter Tryz.func97, Tryz.ntmps97
  go_wp2_with (go_at_call 139; fail)
  rw [← hW1, ← hb0]
  clear hW1 hb0 d1
  refine HC.out.mono ?_
  rintro e w1 ⟨rfl, hT1⟩
  have hb1 := blk_touch HT1.out.2.1 hT1 (fun x => x)
  obtain ⟨k0, k1, k2, k3, k4, k5, k6⟩ := cfg_box hb1 (Touch.refl _ _)
  have f0 : ∀ j, w1.frozen? ⟨b0, j, none⟩ = false := fun j => by simp [World.frozen?, hb1]
  have g0 := f0 0; have g1 := f0 1; have g2 := f0 2; have g3 := f0 3; have g4 := f0 4; have g5 := f0 5; have g6 := f0 6
  have H1 := Lib.hid (And.intro hT1 hb1)
  clear hT1 f0 hb1
  go_wp2
  refine bodyPost_ret (v := c.V) ?_ rfl ⟨rfl, ?_⟩
  · have hb2 : (set7 w1 b0 (.int .i64 c.c0) (.int .i64 c.c1) (.int .i64 c.c2) (.int .i64 c.c3) (.int .i64 c.c4) (.int .i64 c.c5) (.int .i64 c.c6)).heap[b0]? = some (Obj.cells (CfgRow c.c0 c.c1 c.c2 c.c3 c.c4 c.c5 c.c6) 23) := set7_at _ _ _ _ _ _ _ _ H1.out.2
    obtain ⟨y0, y1, y2, y3, y4, y5, y6⟩ := cfg_box hb2 (Touch.refl _ _)
    simp [results, Tryz.results97, go_sem, y0, y1, y2, y3, y4, y5, y6]
  · exact set7_touch _ _ _ _ _ _ _ HT1.out.2.2 (HT1.out.1.trans H1.out.1)
/-- Those of the slots that are in hand. -/
def HS.hnds (S : HS) (c : Cf) (n : Nat) : List Int := (allSl c S.s.ks n).filter fun a => S.hand c a
/-- Between two rounds. -/
structure HdI (c : Cf) (S : HS) (W2 : World) (n1 : Nat) (pre : List Int) (O : Nat → Prop) (A' : World) : Prop where
  t : Touch (fun k => k = n1) W2 A'
  row : ∃ v, LzRow W2.heap.size n1 (pre.filter fun a => S.hand c a) v A' ∧ ∀ j, O j ↔ (j = n1 ∨ v.ownBlock = some j)
end Go.Proofs.YtnobempbcdkoaaaGreatDoor
