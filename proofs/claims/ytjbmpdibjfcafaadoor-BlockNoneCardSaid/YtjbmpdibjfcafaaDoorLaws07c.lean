/- The law BlockNone, walked. Conditions: the tables of limits and of sizes read as laid. -/
import Derived.Test.YtjbmpdibjfcafaaDoorLaws07b
namespace Go.Proofs.YtjbmpdibjfcafaaDoor
open Go.RowKit

set_option maxRecDepth 20000 in
set_option maxHeartbeats 8000000 in
theorem law_BlockNone (a0 : Int) (_ : (Lit.int .i64 a0).wf = true) (a1 : Int) (_ : (Lit.int .i64 a1).wf = true) (a2 : Int) (_ : (Lit.int .i64 a2).wf = true) (a3 : Int) (_ : (Lit.int .i64 a3).wf = true) (a4 : Int) (_ : (Lit.int .i64 a4).wf = true) (a5 : Int) (_ : (Lit.int .i64 a5).wf = true) (a6 : Int) (_ : (Lit.int .i64 a6).wf = true) (n : Int) (_ : (Lit.int .i64 n).wf = true) (w : World) (hLim : Limits w) (hS : Sizes w) :
    Calls Tryd.prog 11 #[CfgV a0 a1 a2 a3 a4 a5 a6, .int .i64 n] w fun e w' => e = .returned (.bool true) ∧ Below w.heap.size w w' := by
  have HL := Lib.hid (Laid.mk hLim hS)
  clear hLim hS
  obtain ⟨W, hW⟩ : ∃ W, W = w.alloc (Obj.cells (CfgRow a0 a1 a2 a3 a4 a5 a6) 49) := ⟨_, rfl⟩
  have hT : Touch nob w W := by rw [hW]; repeat (first | with_reducible exact Touch.refl _ _ | with_reducible assumption | with_reducible apply Touch.alloc | with_reducible apply Touch.drewN | with_reducible apply Touch.drew | with_reducible refine Touch.setCell ?_ (.inr (by first | omega | (simp; done) | (simp; omega))) _)
  have hbx : W.heap[w.heap.size]? = some (Obj.cells (CfgRow a0 a1 a2 a3 a4 a5 a6) 49) := by rw [hW]; exact World.alloc_heap_new w _
  have HB := Lib.hid (fun w' (ht : Touch nob W w') => cfg_box hbx ht)
  have HT := Lib.hid hT
  go_enter Tryd.func11, Tryd.ntmps11
  go_wp2_with fail
  rw [← hW]
  obtain ⟨b0, hb0⟩ : ∃ b, b = w.heap.size := ⟨_, rfl⟩
  rw [← hb0] at HB ⊢
  clear hT hbx hW hb0
  refine (ref02_Right a0 a1 a2 a3 a4 a5 a6 W).mono ?_
  rintro e w1 ⟨rfl, hb1⟩
  have hT1 : Touch nob W w1 := Touch.of_below hb1
  clear hb1
  obtain ⟨k0, k1, k2, k3, k4, k5, k6⟩ := HB.out _ hT1
  cases hc : cfgOk a0 a1 a2 a3 a4 a5 a6
  rotate_left
  (go_wp2_with (go_at_call 33; fail)
   have hT2 := hT1)
  rotate_left
  (go_wp2_with (go_at_call 32; fail)
   refine (block_New_no ⟨a0, a1, a2, a3, a4, a5, a6⟩ w1 (HL.out.old (HT.out.trans hT1)).lim hc).mono ?_
   rintro e w2 ⟨rfl, hT2⟩
   have hT2 := hT1.trans hT2
   clear k0 k1 k2 k3 k4 k5 k6
   go_wp2_with (go_at_call 33; fail))
  all_goals
    refine (bnil_Assign n _).mono ?_
    rintro e w3 ⟨rfl, rfl⟩
    go_wp2_with (go_at_call 41; fail)
    refine (bnil_Class n _).mono ?_
    rintro e w3 ⟨rfl, rfl⟩
    go_wp2_with (go_at_call 42; fail)
    refine (bnil_Owner n _ (HL.out.old (HT.out.trans hT2))).mono ?_
    rintro e w4 ⟨rfl, hT4⟩
    have H4 := Lib.hid (HT.out.trans (hT2.trans hT4))
    clear hT4 hT1 hT2 hc
    go_wp2_with (go_at_call 44; fail)
    refine (blk_Config_nil w4).mono ?_
    rintro e w5 ⟨rfl, hT5⟩
    have H5 := Lib.hid (H4.out.trans hT5)
    clear hT5 H4
    go_wp2_with (go_at_call 36; fail)
    refine (bnil_Unassigned w5).mono ?_
    rintro e w6 ⟨rfl, rfl⟩
    go_wp2_with (go_at_call 47; fail)
    refine (bnil_Of n w5).mono ?_
    rintro e w6 ⟨rfl, hT6⟩
    have H6 := Lib.hid (H5.out.trans hT6)
    clear hT6 H5
    go_wp2_with (go_at_call 40; fail)
    refine (bnil_Slots n w6).mono ?_
    rintro e w7 ⟨rfl, rfl⟩
    go_wp2_with (go_at_call 35; fail)
    refine (law07_list_nil 9 (HL.out.old H6.out)).mono ?_
    rintro e w8 ⟨v8, rfl, hT8, hI8⟩
    obtain ⟨ao8, cap8, hv8⟩ := hI8.shape
    rw [List.length_nil] at hv8
    subst hv8
    have H8 := Lib.hid (H6.out.trans hT8)
    clear hT8 hI8 H6
    go_wp2_with (go_at_call 34; fail)
    refine (blk_Copy_nil w8).mono ?_
    rintro e w9 ⟨rfl, rfl⟩
    go_wp2_with (go_at_call 37; fail)
    refine (law07_awake w8 (HL.out.old H8.out)).mono ?_
    rintro e w9 ⟨rfl, hT9⟩
    have H9 := Lib.hid (H8.out.trans hT9)
    clear hT9
    go_wp2
    go_ret
    exact ⟨rfl, H9.out.below⟩
end Go.Proofs.YtjbmpdibjfcafaaDoor
