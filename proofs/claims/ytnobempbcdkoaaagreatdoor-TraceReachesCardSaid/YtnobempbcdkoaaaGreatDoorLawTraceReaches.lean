/- The law TraceReaches: its row, proved by its walk, and its tied card. Conditions: none beyond the row's own. Made by lawframe.py. -/
import Derived.Test.YtnobempbcdkoaaaGreatDoorRows
import Derived.Test.YtnobempbcdkoaaaGreatDoorCards
import Derived.Test.YtnobempbcdkoaaaGreatDoorTie
import Derived.Test.YtnobempbcdkoaaaGreatDoorRep
import Derived.Test.YtnobempbcdkoaaaGreatDoorLaws16r
import Derived.Test.YtnobempbcdkoaaaGreatDoorMix
import Derived.SevenTiedAt
namespace Go.Proofs.YtnobempbcdkoaaaGreatDoor.LawTraceReaches
open Go Go.ChangeShapes Go.WideShapes Go.ChangeAt Go.RowKit
set_option maxRecDepth 100000
theorem own : ownKnob Tryz.prog.godebug = none := by kernel_rfl
theorem laidOut : laidOutB Tryz.prog = true := by kernel_rfl
theorem door_met (os : Os) (args : Array Value) : laidMetH Tryz.prog [("math/bits.deBruijn64tab", Rows.laid_math_bits_deBruijn64tab), ("dustpan/config.limits", Rows.laid_dustpan_config_limits), ("dustpan/class.sizes", Rows.laid_dustpan_class_sizes)] ((World.doorLaid Tryz.prog 400 os).forCall (fun _ _ => 0) ⟨#[], args, []⟩).memory :=
  laidMetH_of_parts3 (fuel := 8) (laidMet_of_run' 8 (by kernel_rfl) (by kernel_rfl)) (by kernel_rfl) (by kernel_rfl)
theorem plainLaid : (([("math/bits.deBruijn64tab", Rows.laid_math_bits_deBruijn64tab), ("dustpan/config.limits", Rows.laid_dustpan_config_limits), ("dustpan/class.sizes", Rows.laid_dustpan_class_sizes)] : List (String × DataW Unit)).all fun x => x.2.handleName?.isNone) = true := by kernel_rfl
theorem paramsOk : ∀ t ∈ Tryz.f4.params.toList, Tryz.prog.readableRec t = true ∧ t < Tryz.prog.types.size := by
  rw [Tryz.params4]
  intro t ht
  have h : ([27, 28, 38].all fun u => Tryz.prog.readableRec u && decide (u < Tryz.prog.types.size)) = true := by kernel_rfl
  have := List.all_eq_true.1 h t (by simpa using ht)
  simpa using this
theorem lifted (os : Os) (started : os.Started) (H : Type) (enc : TypeId × Value → H) :
    ReturnsInHanded {} Tryz.checked os 4 .any (fun w args => (Rows.traceReachesSpec.pre enc Tryz.prog Tryz.f4 [] false w args ∧ laidMetH Tryz.prog [("math/bits.deBruijn64tab", Rows.laid_math_bits_deBruijn64tab), ("dustpan/config.limits", Rows.laid_dustpan_config_limits), ("dustpan/class.sizes", Rows.laid_dustpan_class_sizes)] w) ∧ sizedMet enc Tryz.prog Tryz.f4 (OpenSpec.ofChange Rows.traceReachesSpec) false w args)
      (Rows.traceReachesSpec.post enc Tryz.prog Tryz.f4 false true false false) := by
  refine returnsInHanded_of_change_and (C := Tryz.checked) (X := fun w _ => laidMetH Tryz.prog [("math/bits.deBruijn64tab", Rows.laid_math_bits_deBruijn64tab), ("dustpan/config.limits", Rows.laid_dustpan_config_limits), ("dustpan/class.sizes", Rows.laid_dustpan_class_sizes)] w) (fun _ _ _ hh h => h.of_heap hh) own started (by kernel_rfl) Tryz.func4
    (ChangeSpec.witness_shaped (enc := enc) (C := Tryz.checked) (os := os) (X := fun w _ => laidMetH Tryz.prog [("math/bits.deBruijn64tab", Rows.laid_math_bits_deBruijn64tab), ("dustpan/config.limits", Rows.laid_dustpan_config_limits), ("dustpan/class.sizes", Rows.laid_dustpan_class_sizes)] w) false (World.doorLaid Tryz.prog 400 os) #[.agg #[.int .i64 0, .int .i64 0, .int .i64 0, .int .i64 0, .int .i64 0, .int .i64 0, .int .i64 0, .slice none 0 0, .slice none 0 0], .slice none 0 0, .agg #[.int .i64 0, .int .i64 0]] 8 rfl (World.shaped_of_RefB (by kernel_rfl) (by kernel_rfl)) (by kernel_rfl) (by kernel_rfl) (by kernel_rfl) (door_met os _)) ?_
  intro W base args ds gs before hval0 hW _ hreach hL _
  have hval : ∀ (j : Nat) t v, Tryz.f4.params[j]? = some t → args[j]? = some v → Value.okWide Tryz.prog W .any base t v := hval0
  have hW' := hW
  obtain ⟨p, q, hA0, hV, rfl, hfz, hnd⟩ := hW
  have hA : DataW.TrodAll enc Tryz.prog W 0 (fun _ => true) true Tryz.f4.params.toList args.toList ds p := hA0
  rw [Tryz.params4] at hA hval
  obtain ⟨v0, vs0, d0, ds0, p0, q0, hargs, rfl, rfl, h0, r0⟩ := trodAll_cons hA
  obtain ⟨v1, vs1, d1, ds1, p1, q1, rfl, rfl, rfl, h1, r1⟩ := trodAll_cons r0
  obtain ⟨v2, vs2, d2, ds2, p2, q2, rfl, rfl, rfl, h2, r2⟩ := trodAll_cons r1
  obtain ⟨rfl, rfl, rfl⟩ := trodAll_nil r2
  obtain rfl : args = #[v0, v1, v2] := by cases args; simp_all
  obtain ⟨rfl, rfl⟩ := trodVars_none hV
  obtain ⟨cs0, rfl, m0_0⟩ := open_mix (n := 9) (l := [.f (some .i64), .f (some .i64), .f (some .i64), .f (some .i64), .f (some .i64), .f (some .i64), .f (some .i64), .sl [some .u8, some .u8, none], .sl [some .u16]]) Tryz.underlying27 (by kernel_rfl) (hval 0 27 v0 rfl rfl) h0
  obtain ⟨a0_0, u0_0, rfl, w0_0, m0_1⟩ := mix_int m0_0
  obtain ⟨a0_1, u0_1, rfl, w0_1, m0_2⟩ := mix_int m0_1
  obtain ⟨a0_2, u0_2, rfl, w0_2, m0_3⟩ := mix_int m0_2
  obtain ⟨a0_3, u0_3, rfl, w0_3, m0_4⟩ := mix_int m0_3
  obtain ⟨a0_4, u0_4, rfl, w0_4, m0_5⟩ := mix_int m0_4
  obtain ⟨a0_5, u0_5, rfl, w0_5, m0_6⟩ := mix_int m0_5
  obtain ⟨a0_6, u0_6, rfl, w0_6, m0_7⟩ := mix_int m0_6
  obtain ⟨v0_7, rows0_7, u0_7, rfl, s0_7, m0_8⟩ := mix_sl m0_7
  obtain ⟨v0_8, rows0_8, u0_8, rfl, s0_8, m0_9⟩ := mix_sl m0_8
  obtain rfl := mix_nil m0_9
  obtain ⟨rows1, s1, len1⟩ := open_slice_flat (n := 9) (l := [some .i64]) Tryz.underlying28 (by kernel_rfl) (by kernel_rfl) (hval 1 28 v1 rfl rfl) h1
  obtain ⟨cs2, rfl, f2_0, rfl⟩ := open_array (n := 9) (l := [some .i64, some .i64]) Tryz.underlying38 (by kernel_rfl) (hval 2 38 v2 rfl rfl) h2
  obtain ⟨a2_0, u2_0, rfl, w2_0, f2_1⟩ := fits_int f2_0
  obtain ⟨a2_1, u2_1, rfl, w2_1, f2_2⟩ := fits_int f2_1
  obtain rfl := fits_nil f2_2
  clear hA0 hval0 hval hA hreach
  rw [MakeChecks.laidMetH_plain _ _ _ plainLaid] at hL
  have hTab : Tab W := tab_of_cells fun i => (laid_cells (n := 9) (l := List.replicate 64 (some .u8)) gTab tTab (by kernel_rfl) hL i).trans rfl
  replace hL := laid_tail hL
  have hLim : Limits W := limits_of_cells fun i => (laid_cells (n := 9) (l := List.replicate 14 (some .i64)) gLimits tLimits (by kernel_rfl) hL i).trans rfl
  replace hL := laid_tail hL
  have hS : Sizes W := sizes_of_cells fun i => (laid_cells (n := 9) (l := List.replicate 4 (some .i64)) gSizes tSizes (by kernel_rfl) hL i).trans rfl
  refine (law_TraceReaches a0_0 w0_0 a0_1 w0_1 a0_2 w0_2 a0_3 w0_3 a0_4 w0_4 a0_5 w0_5 a0_6 w0_6 v0_7 rows0_7 s0_7 v0_8 rows0_8 s0_8 v1 rows1 s1 a2_0 w2_0 a2_1 w2_1 (w := W) (hTab := hTab) (hLim := hLim) (hS := hS)).mono fun e W' ⟨he, hb⟩ => ?_
  subst he
  exact ⟨_, rfl, law_post laidOut rfl rfl rfl Tryz.underlying4 paramsOk hW' hb⟩
theorem row_holds : Rows.traceReachesRow.holds Tryz.pinned (OpenSpec.ofChange Rows.traceReachesSpec) :=
  OpenClaim.holds_of_wide 4 Tryz.f4 rfl rfl rfl rfl rfl rfl rfl ⟨rfl, rfl, rfl, rfl, rfl⟩ rfl rfl rfl rfl rfl (by kernel_rfl) Tryz.func4 (by kernel_rfl)
    (of_decide_eq_true (by kernel_rfl)) (by unfold Func.isWrapper; first | (rw [if_pos (by decide +kernel)]; kernel_rfl) | (rw [if_neg (by decide +kernel)]; exact ⟨rfl, rfl⟩))
    (fun os started H enc _ => lifted os started H enc)
/-- The statement: the tied card. -/
theorem proved : Rows.TraceReachesCardSaid :=
  Claim7.holds_tied_plain_at .later [] [.data, .data, .data] true (true, "30927d64a571f7c1d3d3abcd343b8d79c0a1f3e57950e141bd1f5368e4b3feea") false
    row_holds (fun _ h => by cases h) (by kernel_rfl) (fun _ h => by cases h) traceReaches_row_tie rfl ⟨rfl, rfl⟩ (by kernel_rfl) rfl
    (fun f fn hf hfn => by
      obtain rfl : f = 4 := Option.some.inj ((show Tryz.prog.funcNamed "dustpan/dustpanlaw16.TraceReaches" = some 4 by kernel_rfl).symm.trans hf) |>.symm
      obtain rfl : fn = Tryz.f4 := (Option.some.inj (Tryz.func4.symm.trans hfn)).symm
      exact ⟨by kernel_rfl, fun j t ht => by
        rw [Tryz.params4] at ht
        have hm : t ∈ [27, 28, 38] := by simpa using Array.mem_of_getElem? ht
        have hall : ([27, 28, 38].all fun u => !Tryz.prog.wantsStandIn u) = true := by kernel_rfl
        exact (show Tryz.prog.wantsStandIn t = false by simpa using List.all_eq_true.1 hall t hm)⟩)
    (by kernel_rfl)
#print axioms proved
end Go.Proofs.YtnobempbcdkoaaaGreatDoor.LawTraceReaches
