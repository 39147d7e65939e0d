/- HeapNone, walked. Conditions: the tables of limits and of sizes read as laid. -/
import Derived.Test.YtflhjbmoncbomaaGreatDoorLaws11
import Derived.Test.YtflhjbmoncbomaaGreatDoorHpNil
namespace Go.Proofs.YtflhjbmoncbomaaGreatDoor
open Go.RowKit

set_option maxRecDepth 10000 in
set_option maxHeartbeats 4000000 in
theorem law_HeapNone (a0 : Int) (_ : (Lit.int .i64 a0).wf = true) (a1 : Int) (_ : (Lit.int .i64 a1).wf = true) (a2 : Int) (_ : (Lit.int .i64 a2).wf = true) (a3 : Int) (_ : (Lit.int .i64 a3).wf = true) (a4 : Int) (_ : (Lit.int .i64 a4).wf = true) (a5 : Int) (_ : (Lit.int .i64 a5).wf = true) (a6 : Int) (_ : (Lit.int .i64 a6).wf = true) (a : Int) (_ : (Lit.int .i64 a).wf = true) (n : Int) (_ : (Lit.int .i64 n).wf = true) (w : World) (hTab : Tab w) (hLim : Limits w) (hS : Sizes w) :
    Calls Tryz.prog 7 #[CfgV a0 a1 a2 a3 a4 a5 a6, .int .i64 a, .int .i64 n] w fun e w' => e = .returned (.bool true) ∧ Below w.heap.size w w' := by
  have HL := Lib.hid (Laid.mk hLim hS)
  have hTs := Lib.hid hTab
  clear hLim hS hTab hTs
  obtain ⟨c, hc⟩ : ∃ c : Cf, c = ⟨a0, a1, a2, a3, a4, a5, a6⟩ := ⟨_, rfl⟩
  obtain ⟨W, hW⟩ : ∃ W, W = w.alloc (Obj.cells (CfgRow a0 a1 a2 a3 a4 a5 a6) 23) := ⟨_, rfl⟩
  have hT : Touch nob w W := by rw [hW]; (repeat (first | with_reducible exact Touch.refl _ _ | with_reducible assumption | with_reducible apply Touch.alloc | with_reducible apply Touch.drewN | with_reducible apply Touch.drew | with_reducible refine Touch.setCell ?_ (.inr (by first | omega | (simp; done) | (simp; omega))) _))
  have hbx : W.heap[w.heap.size]? = some (Obj.cells (CfgRow a0 a1 a2 a3 a4 a5 a6) 23) := by rw [hW]; exact World.alloc_heap_new w _
  obtain ⟨b0, hb0⟩ : ∃ b, b = w.heap.size := ⟨_, rfl⟩
  rw [← hb0] at hbx
  have HB := Lib.hid (And.intro hT hbx)
  have hend : ∀ wr, Touch nob w wr → True := fun _ _ => trivial
  clear hend hT hbx
  have hri := ref02_Right a0 a1 a2 a3 a4 a5 a6
  obtain ⟨ok, hok⟩ : ∃ ok, cfgOk a0 a1 a2 a3 a4 a5 a6 = ok := ⟨_, rfl⟩
  simp only [hok] at hri
  have HR := Lib.hid (And.intro hri hok)
  clear hri hok
  cases ok
  · go_enter Tryz.func7, Tryz.ntmps7
    go_wp2_with (go_at_call 35; fail)
    rw [← hW, ← hb0]
    clear hW hb0
    refine (HR.out.1 W).mono ?_
    rintro e w1 ⟨rfl, hb1⟩
    have hT1 : Touch nob W w1 := Touch.of_below hb1
    obtain ⟨y0, y1, y2, y3, y4, y5, y6⟩ := cfg_box HB.out.2 hT1
    have H1 := Lib.hid (HB.out.1.trans hT1)
    clear hT1 hb1
    go_wp2_with (go_at_call 14; fail)
    have hnw := heap_New_no c w1 (HL.out.old H1.out) (by rw [hc]; exact HR.out.2)
    rw [hc] at hnw
    refine hnw.mono ?_
    rintro e w2 ⟨rfl, hT2⟩
    have H2 := Lib.hid (H1.out.trans hT2)
    clear hT2 hnw y0 y1 y2 y3 y4 y5 y6
    go_wp2_with (go_at_call 36; fail)
    refine (heap_nil_Take n w2).mono ?_
    rintro e w' ⟨rfl, rfl⟩
    go_wp2_with (go_at_call 37; fail)
    refine (heap_nil_Assign n w2).mono ?_
    rintro e w' ⟨rfl, rfl⟩
    go_wp2_with (go_at_call 17; fail)
    refine (heap_nil_Fields a w2).mono ?_
    rintro e w3 ⟨rfl, hT3⟩
    have H3 := Lib.hid (H2.out.trans hT3)
    clear hT3
    go_wp2_with (go_at_call 19; fail)
    refine (heap_nil_Load a n w3).mono ?_
    rintro e w4 ⟨rfl, hT4⟩
    have H4 := Lib.hid (H3.out.trans hT4)
    clear hT4
    go_wp2_with (go_at_call 21; fail)
    refine (heap_nil_Color a w4).mono ?_
    rintro e w' ⟨rfl, rfl⟩
    go_wp2_with (go_at_call 38; fail)
    refine (heap_nil_Paint a n w4).mono ?_
    rintro e w' ⟨rfl, rfl⟩
    go_wp2_with (go_at_call 24; fail)
    refine (heap_nil_Cell n w4).mono ?_
    rintro e w' ⟨rfl, rfl⟩
    go_wp2_with (go_at_call 39; fail)
    refine (heap_nil_Make n a w4).mono ?_
    rintro e w' ⟨rfl, rfl⟩
    go_wp2_with (go_at_call 40; fail)
    refine (heap_nil_Put a w4).mono ?_
    rintro e w' ⟨rfl, rfl⟩
    go_wp2_with (go_at_call 41; fail)
    refine (heap_nil_Begin a n w4).mono ?_
    rintro e w' ⟨rfl, rfl⟩
    go_wp2_with (go_at_call 42; fail)
    refine (heap_nil_Bear a n w4).mono ?_
    rintro e w' ⟨rfl, rfl⟩
    go_wp2_with (go_at_call 43; fail)
    refine (heap_nil_Free a w4).mono ?_
    rintro e w' ⟨rfl, rfl⟩
    go_wp2_with (go_at_call 44; fail)
    refine (heap_nil_Store a n n w4).mono ?_
    rintro e w5 ⟨rfl, hT5⟩
    have H5 := Lib.hid (H4.out.trans hT5)
    clear hT5
    go_wp2_with (go_at_call 45; fail)
    refine (heap_nil_SetCell n a w5).mono ?_
    rintro e w' ⟨rfl, rfl⟩
    go_wp2_with (go_at_call 46; fail)
    refine (heap_nil_Config  w5).mono ?_
    rintro e w6 ⟨rfl, hT6⟩
    have H6 := Lib.hid (H5.out.trans hT6)
    clear hT6
    go_wp2_with (go_at_call 47; fail)
    refine (heap_nil_Table  w6).mono ?_
    rintro e w' ⟨rfl, rfl⟩
    go_wp2_with (go_at_call 23; fail)
    refine (heap_nil_Is a w6).mono ?_
    rintro e w' ⟨rfl, rfl⟩
    go_wp2_with (go_at_call 48; fail)
    refine (heap_nil_Objects  w6).mono ?_
    rintro e w' ⟨rfl, rfl⟩
    go_wp2_with (go_at_call 49; fail)
    refine (heap_nil_Frees n w6).mono ?_
    rintro e w' ⟨rfl, rfl⟩
    go_wp2_with (go_at_call 50; fail)
    refine (heap_nil_Hands  w6).mono ?_
    rintro e w7 ⟨rfl, hT7⟩
    have H7 := Lib.hid (H6.out.trans hT7)
    clear hT7
    go_wp2_with (go_at_call 13; fail)
    refine (law11_awake w7 (HL.out.old H7.out)).mono ?_
    rintro e w8 ⟨rfl, hT8⟩
    have HE := Lib.hid ((H7.out.trans hT8).below)
    clear hT8
    go_wp2
    go_ret
    exact ⟨rfl, HE.out⟩
  · go_enter Tryz.func7, Tryz.ntmps7
    go_wp2_with (go_at_call 35; fail)
    rw [← hW, ← hb0]
    clear hW hb0
    refine (HR.out.1 W).mono ?_
    rintro e w2 ⟨rfl, hb1⟩
    have H2 := Lib.hid (HB.out.1.trans (Touch.of_below (S := nob) hb1))
    clear hb1
    go_wp2_with (go_at_call 36; fail)
    refine (heap_nil_Take n w2).mono ?_
    rintro e w' ⟨rfl, rfl⟩
    go_wp2_with (go_at_call 37; fail)
    refine (heap_nil_Assign n w2).mono ?_
    rintro e w' ⟨rfl, rfl⟩
    go_wp2_with (go_at_call 17; fail)
    refine (heap_nil_Fields a w2).mono ?_
    rintro e w3 ⟨rfl, hT3⟩
    have H3 := Lib.hid (H2.out.trans hT3)
    clear hT3
    go_wp2_with (go_at_call 19; fail)
    refine (heap_nil_Load a n w3).mono ?_
    rintro e w4 ⟨rfl, hT4⟩
    have H4 := Lib.hid (H3.out.trans hT4)
    clear hT4
    go_wp2_with (go_at_call 21; fail)
    refine (heap_nil_Color a w4).mono ?_
    rintro e w' ⟨rfl, rfl⟩
    go_wp2_with (go_at_call 38; fail)
    refine (heap_nil_Paint a n w4).mono ?_
    rintro e w' ⟨rfl, rfl⟩
    go_wp2_with (go_at_call 24; fail)
    refine (heap_nil_Cell n w4).mono ?_
    rintro e w' ⟨rfl, rfl⟩
    go_wp2_with (go_at_call 39; fail)
    refine (heap_nil_Make n a w4).mono ?_
    rintro e w' ⟨rfl, rfl⟩
    go_wp2_with (go_at_call 40; fail)
    refine (heap_nil_Put a w4).mono ?_
    rintro e w' ⟨rfl, rfl⟩
    go_wp2_with (go_at_call 41; fail)
    refine (heap_nil_Begin a n w4).mono ?_
    rintro e w' ⟨rfl, rfl⟩
    go_wp2_with (go_at_call 42; fail)
    refine (heap_nil_Bear a n w4).mono ?_
    rintro e w' ⟨rfl, rfl⟩
    go_wp2_with (go_at_call 43; fail)
    refine (heap_nil_Free a w4).mono ?_
    rintro e w' ⟨rfl, rfl⟩
    go_wp2_with (go_at_call 44; fail)
    refine (heap_nil_Store a n n w4).mono ?_
    rintro e w5 ⟨rfl, hT5⟩
    have H5 := Lib.hid (H4.out.trans hT5)
    clear hT5
    go_wp2_with (go_at_call 45; fail)
    refine (heap_nil_SetCell n a w5).mono ?_
    rintro e w' ⟨rfl, rfl⟩
    go_wp2_with (go_at_call 46; fail)
    refine (heap_nil_Config  w5).mono ?_
    rintro e w6 ⟨rfl, hT6⟩
    have H6 := Lib.hid (H5.out.trans hT6)
    clear hT6
    go_wp2_with (go_at_call 47; fail)
    refine (heap_nil_Table  w6).mono ?_
    rintro e w' ⟨rfl, rfl⟩
    go_wp2_with (go_at_call 23; fail)
    refine (heap_nil_Is a w6).mono ?_
    rintro e w' ⟨rfl, rfl⟩
    go_wp2_with (go_at_call 48; fail)
    refine (heap_nil_Objects  w6).mono ?_
    rintro e w' ⟨rfl, rfl⟩
    go_wp2_with (go_at_call 49; fail)
    refine (heap_nil_Frees n w6).mono ?_
    rintro e w' ⟨rfl, rfl⟩
    go_wp2_with (go_at_call 50; fail)
    refine (heap_nil_Hands  w6).mono ?_
    rintro e w7 ⟨rfl, hT7⟩
    have H7 := Lib.hid (H6.out.trans hT7)
    clear hT7
    go_wp2_with (go_at_call 13; fail)
    refine (law11_awake w7 (HL.out.old H7.out)).mono ?_
    rintro e w8 ⟨rfl, hT8⟩
    have HE := Lib.hid ((H7.out.trans hT8).below)
    clear hT8
    go_wp2
    go_ret
    exact ⟨rfl, HE.out⟩
end Go.Proofs.YtflhjbmoncbomaaGreatDoor
