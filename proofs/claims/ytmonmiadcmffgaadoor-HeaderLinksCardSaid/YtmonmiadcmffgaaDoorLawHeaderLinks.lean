/- The law HeaderLinks: its row, proved by its walk, and its tied card. Conditions: none beyond the row's own. Made by lawframe.py. -/
import Derived.Test.YtmonmiadcmffgaaDoorRows
import Derived.Test.YtmonmiadcmffgaaDoorCards
import Derived.Test.YtmonmiadcmffgaaDoorTie
import Derived.Test.YtmonmiadcmffgaaDoorFrame
import Derived.Test.YtmonmiadcmffgaaDoorLaws05
import Derived.SevenTiedAt
namespace Go.Proofs.YtmonmiadcmffgaaDoor.LawHeaderLinks
open Go Go.ChangeShapes Go.WideShapes Go.ChangeAt Go.RowKit
set_option maxRecDepth 100000
theorem own : ownKnob Tryd.prog.godebug = none := by kernel_rfl
theorem laidOut : laidOutB Tryd.prog = true := by kernel_rfl
theorem door_met (os : Os) (args : Array Value) : laidMetH Tryd.prog [("dustpan/class.sizes", Rows.laid_dustpan_class_sizes)] ((World.doorLaid Tryd.prog 400 os).forCall (fun _ _ => 0) ⟨#[], args, []⟩).memory :=
  laidMetH_of_parts3 (fuel := 8) (laidMet_of_run' 8 (by kernel_rfl) (by kernel_rfl)) (by kernel_rfl) (by kernel_rfl)
theorem plainLaid : (([("dustpan/class.sizes", Rows.laid_dustpan_class_sizes)] : List (String × DataW Unit)).all fun x => x.2.handleName?.isNone) = true := by kernel_rfl
theorem paramsOk : ∀ t ∈ Tryd.f10.params.toList, Tryd.prog.readableRec t = true ∧ t < Tryd.prog.types.size := by
  rw [Tryd.params10]
  intro t ht
  have h : ([3].all fun u => Tryd.prog.readableRec u && decide (u < Tryd.prog.types.size)) = true := by kernel_rfl
  have := List.all_eq_true.1 h t (by simpa using ht)
  simpa using this
theorem lifted (os : Os) (started : os.Started) (H : Type) (enc : TypeId × Value → H) :
    ReturnsInHanded {} Tryd.checked os 10 .any (fun w args => (Rows.headerLinksSpec.pre enc Tryd.prog Tryd.f10 [] false w args ∧ laidMetH Tryd.prog [("dustpan/class.sizes", Rows.laid_dustpan_class_sizes)] w) ∧ sizedMet enc Tryd.prog Tryd.f10 (OpenSpec.ofChange Rows.headerLinksSpec) false w args)
      (Rows.headerLinksSpec.post enc Tryd.prog Tryd.f10 false true false false) := by
  refine returnsInHanded_of_change_and (C := Tryd.checked) (X := fun w _ => laidMetH Tryd.prog [("dustpan/class.sizes", Rows.laid_dustpan_class_sizes)] w) (fun _ _ _ hh h => h.of_heap hh) own started (by kernel_rfl) Tryd.func10
    (ChangeSpec.witness_shaped (enc := enc) (C := Tryd.checked) (os := os) (X := fun w _ => laidMetH Tryd.prog [("dustpan/class.sizes", Rows.laid_dustpan_class_sizes)] w) false (World.doorLaid Tryd.prog 400 os) #[.int .i64 0] 8 rfl (World.shaped_of_RefB (by kernel_rfl) (by kernel_rfl)) (by kernel_rfl) (by kernel_rfl) (by kernel_rfl) (door_met os _)) ?_
  intro W base args ds gs before hval0 hW _ hreach hL _
  have hval : ∀ (j : Nat) t v, Tryd.f10.params[j]? = some t → args[j]? = some v → Value.okWide Tryd.prog W .any base t v := hval0
  have hW' := hW
  obtain ⟨p, q, hA0, hV, rfl, hfz, hnd⟩ := hW
  have hA : DataW.TrodAll enc Tryd.prog W 0 (fun _ => true) true Tryd.f10.params.toList args.toList ds p := hA0
  rw [Tryd.params10] at hA hval
  obtain ⟨v0, vs0, d0, ds0, p0, q0, hargs, rfl, rfl, h0, r0⟩ := trodAll_cons hA
  obtain ⟨rfl, rfl, rfl⟩ := trodAll_nil r0
  obtain rfl : args = #[v0] := by cases args; simp_all
  obtain ⟨rfl, rfl⟩ := trodVars_none hV
  obtain ⟨a0, rfl, rfl, rfl, w0⟩ := open_int Tryd.underlying3 (hval 0 3 v0 rfl rfl) h0
  clear hA0 hval0 hval hA hreach
  rw [MakeChecks.laidMetH_plain _ _ _ plainLaid] at hL
  have hS : Sizes W := sizes_of_cells fun i => (laid_cells (n := 9) (l := List.replicate 4 (some .i64)) gSizes tSizes (by kernel_rfl) hL i).trans rfl
  refine (law_HeaderLinks a0 w0 W (hS := hS)).mono fun e W' ⟨he, hb⟩ => ?_
  subst he
  exact ⟨_, rfl, law_post laidOut rfl rfl rfl Tryd.underlying4 paramsOk hW' hb⟩
theorem row_holds : Rows.headerLinksRow.holds Tryd.pinned (OpenSpec.ofChange Rows.headerLinksSpec) :=
  OpenClaim.holds_of_wide 10 Tryd.f10 rfl rfl rfl rfl rfl rfl rfl ⟨rfl, rfl, rfl, rfl, rfl⟩ rfl rfl rfl rfl rfl (by kernel_rfl) Tryd.func10 (by kernel_rfl)
    (of_decide_eq_true (by kernel_rfl)) (by unfold Func.isWrapper; first | (rw [if_pos (by decide +kernel)]; kernel_rfl) | (rw [if_neg (by decide +kernel)]; exact ⟨rfl, rfl⟩))
    (fun os started H enc _ => lifted os started H enc)
/-- The statement: the tied card. -/
theorem proved : Rows.HeaderLinksCardSaid :=
  Claim7.holds_tied_plain_at .later [] [.data] true (true, "997b4d05e7429e4808af3d48770e9692a807598126ee560a248a20a21d82bcbf") false
    row_holds (fun _ h => by cases h) (by kernel_rfl) (fun _ h => by cases h) headerLinks_row_tie rfl ⟨rfl, rfl⟩ (by kernel_rfl) rfl
    (fun f fn hf hfn => by
      obtain rfl : f = 10 := Option.some.inj ((show Tryd.prog.funcNamed "dustpan/dustpanlaw05.HeaderLinks" = some 10 by kernel_rfl).symm.trans hf) |>.symm
      obtain rfl : fn = Tryd.f10 := (Option.some.inj (Tryd.func10.symm.trans hfn)).symm
      exact ⟨by kernel_rfl, fun j t ht => by
        rw [Tryd.params10] at ht
        have hm : t ∈ [3] := by simpa using Array.mem_of_getElem? ht
        have hall : ([3].all fun u => !Tryd.prog.wantsStandIn u) = true := by kernel_rfl
        exact (show Tryd.prog.wantsStandIn t = false by simpa using List.all_eq_true.1 hall t hm)⟩)
    (by kernel_rfl)
#print axioms proved
end Go.Proofs.YtmonmiadcmffgaaDoor.LawHeaderLinks
