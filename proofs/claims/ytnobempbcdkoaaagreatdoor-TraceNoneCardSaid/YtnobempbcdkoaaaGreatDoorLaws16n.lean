/- TraceNone, walked. Conditions: the tables of limits, of sizes and of de Bruijn's bits read as laid. -/
import Derived.Test.YtnobempbcdkoaaaGreatDoorTrN
import Derived.Test.YtnobempbcdkoaaaGreatDoorGr
namespace Go.Proofs.YtnobempbcdkoaaaGreatDoor
open Go.RowKit
attribute [local go_sem] Oper.semAt_some

set_option maxRecDepth 20000 in
set_option maxHeartbeats 4000000 in
theorem law_TraceNone (col : Int) (_ : (Lit.int .i64 col).wf = true) (room : Int) (_ : (Lit.int .i64 room).wf = true) (a : Int) (_ : (Lit.int .i64 a).wf = true) (w : World) (hTab : Tab w) (hLim : Limits w) (hS : Sizes w) :
    Calls Tryz.prog 11 #[.int .i64 col, .int .i64 room, .int .i64 a] w fun e w' => e = .returned (.bool true) ∧ Below w.heap.size w w' := by
  refine (callsIn_wide (n := 0)).1 (callsIn_of_wp_marks Tryz.func11 rfl trivial ?_ rfl)
  simp only [Tryz.ntmps11, List.size_toArray, List.length_cons, List.length_nil, Nat.reduceAdd, Nat.reduceSub, Array.replicate_succ, Array.replicate_zero, List.push_toArray, List.append_toArray, List.nil_append, List.cons_append]
  have HL := Lib.hid (And.intro (Laid.mk hLim hS) hTab)
  clear hTab hLim hS
  gi_wp2_with fail
  refine ⟨trivial, rfl, ?_⟩
  obtain ⟨bx, hbx⟩ : ∃ b, b = w.heap.size := ⟨_, rfl⟩
  obtain ⟨W1, hW1⟩ : ∃ W1, W1 = (w.alloc (Obj.cells #[.bool false] 4)).alloc (Obj.cells #[.int .i64 a] 3) := ⟨_, rfl⟩
  rw [← hW1, ← hbx]
  have t1 : Touch nob w W1 := by rw [hW1]; (repeat (first | with_reducible exact Touch.refl _ _ | with_reducible assumption | with_reducible apply Touch.alloc | with_reducible apply Touch.drewN | with_reducible apply Touch.drew | with_reducible refine Touch.setCell ?_ (.inr (by first | omega | (simp; done) | (simp; omega))) _))
  have b1 : W1.heap[bx]? = some (Obj.cells #[.bool false] 4) := by rw [hW1, hbx]; exact alloc2_0 w _ _
  have H1 := Lib.hid (And.intro t1 (And.intro b1 hbx))
  clear t1 b1 hW1 hbx
  refine (callsIn_wide.2 (nil_Mark col room _ W1)).mono ?_
  rintro e w2 ⟨rfl, t2⟩
  have H2 := Lib.hid t2
  clear t2
  gi_wp2_with fail
  refine ⟨trivial, rfl, ?_⟩
  refine (callsIn_wide.2 (trace_Edges w2 none a)).mono ?_
  rintro e w3 ⟨be, rfl, t3, hbe, e1, e2⟩
  have H3 := Lib.hid (And.intro (H2.out.trans t3) (And.intro e1 e2))
  clear t3 hbe e1 e2
  have hq : ∀ (caps : Array Value) (w : World), (binOp .eql 46 (.func (.func 56) #[] caps) .nilFunc).run Tryz.prog w = .ok (.bool false) w := fun _ _ => rfl
  gi_wp2_with fail
  have t13 : Touch nob W1 w3 := H3.out.1
  refine rf_law1 (encs := fun p : Int × Int => #[.int .i64 p.1, .int .i64 p.2]) (xs := []) ?a1 (O₀ := fun k => k = bx) rfl (enters_of Tryz.func56 (by kernel_rfl) rfl) (nil_ed be (be + 1) a H3.out.2.1 H3.out.2.2) (fun _ => rfl) abD_T abD_M abD_O (fun _ _ _ _ _ _ _ => trivial)
    (fun _ O A' => NoI w bx (.bool false) 4 O A') (fun _ _ _ _ => False) ?pr ?o0 ?hI (fun _ _ _ _ _ h _ => h) ?h0 ?assign ?body ?done ?stop
  case pr =>
    have hk1 := one_cell (blk_touch H1.out.2.1 t13 (fun x => x))
    have hl1 := blk_lt H3.out.2.1
    have hl2 := blk_lt H3.out.2.2
    have hc1 := H3.out.2.1
    have hc2 := H3.out.2.2
    have hb := blk_touch H1.out.2.1 t13 (fun x => x)
    rintro k (rfl | rfl)
    · exact ⟨hl1, fun e => by
        have e : k = bx := e
        rw [e] at hc1
        have := hc1.symm.trans hb
        simp at this⟩
    · exact ⟨hl2, fun e => by
        have e : be + 1 = bx := e
        rw [e] at hc2
        have := hc2.symm.trans hb
        simp at this⟩
  case o0 => exact fun k hk => (show k = bx from hk) ▸ blk_lt (blk_touch H1.out.2.1 t13 (fun x => x))
  case hI => exact fun pre O X Y h hab => h.ab (H1.out.1.trans t13).size hab
  case h0 => exact ⟨blk_touch H1.out.2.1 t13 (fun x => x), H1.out.1.trans t13, fun j => Iff.rfl⟩
  case assign =>
    intro l x X K hK
    gi_wp2
    exact hK
  case body =>
    intro l pre x O X h hpre
    exact (pre_nil hpre).elim
  case stop =>
    rintro D c pre O X hD hO hpre h hK
    exact h.elim
  case done =>
    rintro D O X hD hO ⟨i1, i2, i3⟩ hK
    have HX := Lib.hid (And.intro i1 (And.intro i2 (And.intro hK (show w.heap.size ≤ D from Nat.le_trans (H1.out.1.trans t13).size hD))))
    clear i1 i2 i3 hK hD hO t13
    gi_wp2_with fail
    have hone : ∀ X : World, IntsIn (X.alloc (Obj.cells #[.int .i64 a] 3)) (.slice (some ⟨X.heap.size, 0, none⟩) 1 1) [a] := fun X => ⟨_, _, rfl, .inr ⟨X.heap.size, 0, rfl, by simp, fun j hj => by
      obtain rfl : j = 0 := by simpa using hj
      exact one_cell (World.alloc_heap_new X _)⟩⟩
    have HO := Lib.hid hone
    have al : ∀ X : World, Touch nob X (X.alloc (Obj.cells #[.int .i64 a] 3)) := fun X => (Touch.refl _ _).alloc _
    have HA := Lib.hid al
    clear hone al
    refine ⟨trivial, rfl, ?_⟩
    refine (callsIn_wide.2 (nil_Reach _ [a] (HL.out.1.lim.touch (HX.out.2.1.trans (HA.out X)) (fun x => x)) (HL.out.2.touch (HX.out.2.1.trans (HA.out X)) (fun x => x)) (HO.out X) (by simp))).mono ?_
    rintro e w5 ⟨rfl, t5⟩
    have H5 := Lib.hid ((HA.out X).trans t5)
    clear t5
    gi_wp2_with fail
    refine ⟨trivial, rfl, ?_⟩
    refine (callsIn_wide.2 (nil_Garbage _ [a] (HL.out.1.lim.touch ((HX.out.2.1.trans H5.out).trans (HA.out w5)) (fun x => x)) (HO.out w5) (by simp))).mono ?_
    rintro e w6 ⟨v6, rfl, t6, o6⟩
    obtain ⟨ao6, cp6, rfl⟩ := o6.ints.shape
    rw [List.length_nil]
    have H6 := Lib.hid (H5.out.trans ((HA.out w5).trans t6))
    clear t6 o6
    gi_wp2_with fail
    refine ⟨trivial, rfl, ?_⟩
    refine (callsIn_wide.2 (nil_Reaches a a (HL.out.1.lim.touch (HX.out.2.1.trans H6.out) (fun x => x)))).mono ?_
    rintro e w7 ⟨rfl, t7⟩
    have H7 := Lib.hid (H6.out.trans t7)
    clear t7
    gi_wp2_with fail
    refine ⟨trivial, rfl, ?_⟩
    refine (callsIn_wide.2 (law16_awake w7 (HL.out.1.old (HX.out.2.1.trans H7.out)) (HL.out.2.touch (HX.out.2.1.trans H7.out) (fun x => x)))).mono ?_
    rintro e w8 ⟨rfl, t8⟩
    have H8 := Lib.hid (H7.out.trans t8)
    obtain ⟨cb, fb⟩ := box1 (blk_touch HX.out.1 (H7.out.trans t8) (fun x => x))
    clear t8
    gi_wp2
    have hb8 := blk_touch HX.out.1 H8.out (fun x => x)
    have hb9 : (w8.setCell ⟨bx, 0, none⟩ (.bool true)).heap[bx]? = some (Obj.cells #[.bool true] 4) := set_one _ hb8
    have hDb : D ≠ bx := fun e => by
      have h1 := HX.out.2.2.1
      rw [e] at h1
      have := h1.symm.trans HX.out.1
      simp at this
    have hD9 : (w8.setCell ⟨bx, 0, none⟩ (.bool true)).heap[D]? = some (.deferred (some [])) := (set_other _ hDb).trans (blk_touch HX.out.2.2.1 H8.out (fun x => x))
    refine ⟨by simp, .inl ⟨_, _, rfl, run_takeDeferred hD9, ?_⟩⟩
    have hb10 := one_cell ((World.putObj_heap_other (o := .deferred none) (fun e => hDb e.symm)).trans hb9)
    refine ⟨.bool true, by simp [results, Tryz.f11, go_sem, hb10], rfl, ?_⟩
    have h1 : Touch nob w w8 := HX.out.2.1.trans H8.out
    exact ((h1.setCell (.inr (by have := H1.out.2.2; exact Nat.le_of_eq this.symm)) _).putObj (.inr HX.out.2.2.2) _).below
end Go.Proofs.YtnobempbcdkoaaaGreatDoor
