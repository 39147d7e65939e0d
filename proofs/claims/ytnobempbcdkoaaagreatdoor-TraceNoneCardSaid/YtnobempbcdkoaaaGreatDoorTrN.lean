/- Of a heap that isn't there nothing is reached; walked. Conditions: the tables of limits and of de Bruijn's bits read as laid. -/
import Derived.Test.YtnobempbcdkoaaaGreatDoorMra
import Derived.Test.YtnobempbcdkoaaaGreatDoorHpNil
import Derived.Sort.LoopGhostIn
namespace Go.Proofs.YtnobempbcdkoaaaGreatDoor
open Go.RowKit
attribute [local go_sem] Oper.semAt_some

variable {w w' : World}
theorem pre_nil {α : Type} {pre : List α} {x : α} (h : pre ++ [x] <+: []) : False := by
  have := h.length_le
  simp at this
/-- Between two rounds, of none. -/
def NoI (w : World) (n1 : Nat) (v : Value) (t : TypeId) (O : Nat → Prop) (A' : World) : Prop := A'.heap[n1]? = some (Obj.cells #[v] t) ∧ Touch nob w A' ∧ ∀ j, O j ↔ j = n1
theorem NoI.ab {n1 b : Nat} {v : Value} {t : TypeId} {O : Nat → Prop} {A' B' : World} (hw : w.heap.size ≤ b) (h : NoI w n1 v t O A') (hab : AbD b O A' B') : NoI w n1 v t O B' :=
  ⟨blk_touch h.1 hab (fun x => x.2 ((h.2.2 n1).2 rfl)), h.2.1.step hab (fun _ hk => .inr (Nat.le_trans hw hk.1)), h.2.2⟩
set_option maxRecDepth 20000 in
theorem appendSeq_none (gf : Nat) (lb : Array Value) (eg : ∀ args w, (callFunc gf args).run Tryz.prog w = .ok (.enter gf args) w) {Pr : Nat → Prop} (hP : ∀ b, Pr b → b < w.heap.size)
    (hit : ∀ W, Touch nob w W → Iter Tryz.prog gf lb (fun a : Nat => #[.int .i64 a]) AbD (fun _ _ => True) [] Pr W) :
    Calls Tryz.prog 94 #[.slice none 0 0, .func (.func gf) #[] lb] w fun e w' => e = .returned (.slice none 0 0) ∧ Touch nob w w' := by
  refine (callsIn_wide (n := 0)).1 (callsIn_of_wp_marks Tryz.func94 rfl trivial ?_ rfl)
  simp only [Tryz.ntmps94, List.size_toArray, List.length_cons, List.length_nil, Nat.reduceAdd, Nat.reduceSub, Array.replicate_succ, Array.replicate_zero, List.push_toArray, List.append_toArray, List.nil_append, List.cons_append]
  have HS := Lib.hid (And.intro hit hP)
  clear hit hP
  gi_wp2_with fail
  obtain ⟨W2, hW2⟩ : ∃ W2, W2 = w.alloc (Obj.cells #[.slice none 0 0] 28) := ⟨_, rfl⟩
  obtain ⟨n1, hn1⟩ : ∃ n, n = w.heap.size := ⟨_, rfl⟩
  rw [← hW2, ← hn1]
  have hT2 : Touch nob w W2 := by rw [hW2]; (repeat (first | with_reducible exact Touch.refl _ _ | with_reducible assumption | with_reducible apply Touch.alloc | with_reducible apply Touch.drewN | with_reducible apply Touch.drew | with_reducible refine Touch.setCell ?_ (.inr (by first | omega | (simp; done) | (simp; omega))) _))
  have c1 : W2.heap[n1]? = some (Obj.cells #[.slice none 0 0] 28) := by rw [hW2, hn1]; exact World.alloc_heap_new w _
  have hIt := HS.out.1 W2 hT2
  have H := Lib.hid (And.intro hn1 (And.intro hT2 (And.intro hIt c1)))
  clear hW2 hn1 hT2 c1 hIt
  refine rf_law1 (encs := fun a : Nat => #[Value.int .i64 a]) (xs := ([] : List Nat)) ?a1 (O₀ := fun k => k = n1) rfl eg H.out.2.2.1 (fun _ => rfl) abD_T abD_M abD_O (fun _ _ _ _ _ _ _ => trivial)
    (fun _ O A' => NoI w n1 (.slice none 0 0) 28 O A') (fun _ _ _ _ => False) ?pr ?o0 ?hI (fun _ _ _ _ _ h _ => h) ?h0 ?assign ?body ?done ?stop
  case pr =>
    intro k hk
    have h1 := HS.out.2 k hk
    have h2 := H.out.1
    have h3 := H.out.2.1.size
    exact ⟨by omega, fun x => by omega⟩
  case o0 => exact fun k hk => (show k = n1 from hk) ▸ blk_lt H.out.2.2.2
  case hI => exact fun pre O X Y h hab => h.ab H.out.2.1.size hab
  case h0 => exact ⟨H.out.2.2.2, H.out.2.1, fun j => Iff.rfl⟩
  case assign =>
    intro l x X K hK
    gi_wp2
    exact hK
  case body =>
    intro l pre x O X h hpre
    exact (pre_nil hpre).elim
  case done =>
    rintro D O X hD hO ⟨i1, i2, i3⟩ hK
    have c1 := one_cell i1
    have HB := Lib.hid (And.intro i2 (And.intro hK hD))
    clear i1 i2 i3 hK hD hO
    gi_wp2
    obtain ⟨i2, hK, hD⟩ := HB.out
    refine ⟨by simp, .inl ⟨_, _, rfl, run_takeDeferred hK, ?_⟩⟩
    exact ⟨.slice none 0 0, by simp [results, Tryz.f94, go_sem], rfl, i2.putObj (.inr (Nat.le_trans H.out.2.1.size hD)) _⟩
  case stop =>
    rintro D c pre O X hD hO hpre h hK
    exact h.elim
theorem collect_none (gf : Nat) (lb : Array Value) (eg : ∀ args w, (callFunc gf args).run Tryz.prog w = .ok (.enter gf args) w) {Pr : Nat → Prop} (hP : ∀ b, Pr b → b < w.heap.size)
    (hit : ∀ W, Touch nob w W → Iter Tryz.prog gf lb (fun a : Nat => #[.int .i64 a]) AbD (fun _ _ => True) [] Pr W) :
    Calls Tryz.prog 51 #[.func (.func gf) #[] lb] w fun e w' => e = .returned (.slice none 0 0) ∧ Touch nob w w' := by
  have H := Lib.hid (appendSeq_none gf lb eg hP hit)
  clear hit hP eg
  go_enter Tryz.func51, Tryz.ntmps51
  go_wp2_with (go_at_call 94; fail)
  refine H.out.mono ?_
  rintro e w1 ⟨rfl, t1⟩
  have H1 := Lib.hid t1
  clear t1
  go_wp2
  go_ret
  exact ⟨rfl, H1.out⟩
/-- While what is reached is sought, of no heap. -/
structure NlI (w : World) (p q bt : Nat) (td : List Int) (v : Value) (wr : World) : Prop where
  se : ∃ cap ws, SetAt wr p q cap ws 1 (fun _ => false)
  bx : wr.heap[bt]? = some (Obj.cells #[v] 28)
  ow : Ow wr w.heap.size v td
  t : Touch nob w wr
  lo : w.heap.size ≤ bt
theorem NlI.pop {p q bt g cap : Nat} {td : List Int} {x : Int} {v : Value} {wr : World} (h : NlI w p q bt (td ++ [x]) v wr) (ho : Ow wr w.heap.size (.slice (some ⟨g, 0, none⟩) td.length cap) td) (hv : v = .slice (some ⟨g, 0, none⟩) (td.length + 1) cap) : NlI w p q bt td (.slice (some ⟨g, 0, none⟩) td.length cap) (wr.setCell ⟨bt, 0, none⟩ (.slice (some ⟨g, 0, none⟩) td.length cap)) := by
  obtain ⟨cp, ws, hs⟩ := h.se
  have t1 : Touch (fun b => b = bt) wr (wr.setCell ⟨bt, 0, none⟩ (.slice (some ⟨g, 0, none⟩) td.length cap)) := touch_set _ _ _ _
  have k1 : p ≠ bt := fun e => by
    have h1 := hs.box
    rw [e] at h1
    have := h1.symm.trans h.bx
    simp at this
  have k2 : q ≠ bt := fun e => by
    obtain ⟨cur, h1, _⟩ := hs.row
    rw [e] at h1
    have := h1.symm.trans h.bx
    simp at this
  have k3 : g ≠ bt := fun e => by
    subst hv
    have h0 := h.ow
    unfold Ow at h0
    rw [show (td ++ [x]).length = td.length + 1 by simp] at h0
    obtain ⟨cur, h1, _⟩ := (RowAt.of_owns h0).1
    rw [e] at h1
    have := h1.symm.trans h.bx
    simp at this
  exact ⟨⟨cp, ws, hs.touch t1 k1 k2⟩, set_one _ h.bx, ho.touch t1 (fun b hb e => k3 (by cases hb; exact e)), h.t.step t1 (fun b hb => .inr ((show b = bt from hb) ▸ h.lo)), h.lo⟩
set_option maxRecDepth 20000 in
set_option maxHeartbeats 2000000 in
theorem nil_reached (roots : Value) (rt : List Int) (hL : Limits w) (hr : IntsIn w roots rt) (hb : rt.length ≤ 1000) :
    Calls Tryz.prog 52 #[.pointer none, roots] w fun e w' => ∃ p q, e = .returned (.pointer (some ⟨p, 0, none⟩)) ∧ Touch nob w w' ∧ ∃ cap ws, SetAt w' p q cap ws 1 (fun _ => false) := by
  refine (callsIn_wide (n := 0)).1 (callsIn_of_wp_marks Tryz.func52 rfl trivial ?_ rfl)
  simp only [Tryz.ntmps52, List.size_toArray, List.length_cons, List.length_nil, Nat.reduceAdd, Nat.reduceSub, Array.replicate_succ, Array.replicate_zero, List.push_toArray, List.append_toArray, List.nil_append, List.cons_append]
  have HR := Lib.hid (And.intro hr hL)
  clear hr hL
  gi_wp2_with fail
  refine wpIn_wide.2 (wp_scope_straight ((wpIn_wide (n := 0)).1 ?_))
  gi_wp2_with fail
  refine ⟨trivial, rfl, ?_⟩
  refine (callsIn_wide.2 (heap_nil_Config w)).mono ?_
  rintro e w1 ⟨rfl, t1⟩
  have H1 := Lib.hid t1
  clear t1
  gi_wp2_with fail
  refine ⟨trivial, rfl, ?_⟩
  refine (callsIn_wide.2 (config_Words 0 0 0 0 0 0 0 w1 (HR.out.2.touch H1.out (fun x => x)))).mono ?_
  rintro e w2 ⟨rfl, t2⟩
  rw [show ifOk (cfgOk 0 0 0 0 0 0 0) (cfgWords 0 0) = 0 by decide]
  have H2 := Lib.hid (H1.out.trans (Touch.of_below t2))
  clear t2
  gi_wp2_with fail
  refine ⟨trivial, rfl, ?_⟩
  refine (callsIn_wide.2 (bits_New_ok 1 (by omega) w2)).mono ?_
  rintro e w3 ⟨p, q, cap, ws, rfl, t3, hp3, hq3, s3⟩
  have H3 := Lib.hid (And.intro (H2.out.trans t3) s3)
  clear t3 hp3 hq3 s3
  gi_wp2_with fail
  refine ⟨trivial, rfl, ?_⟩
  refine (callsIn_wide.2 (clone_ints roots rt w3 (HR.out.1.old H3.out.1) (by omega))).mono ?_
  rintro e w4 ⟨v4, rfl, t4, o4⟩
  obtain ⟨ao, cp, rfl⟩ := own_shape o4
  have H4 := Lib.hid (And.intro t4 o4)
  clear t4 o4
  gi_wp2_with fail
  obtain ⟨bt, hbt⟩ : ∃ bt, bt = w4.heap.size := ⟨_, rfl⟩
  obtain ⟨W5, hW5⟩ : ∃ W5, W5 = w4.alloc (Obj.cells #[.slice ao rt.length cp] 28) := ⟨_, rfl⟩
  rw [← hbt, ← hW5]
  have H5 : Hid (NlI w p q bt rt (.slice ao rt.length cp) W5) := by
    have t5 : Touch nob w4 W5 := by rw [hW5]; exact (Touch.refl _ _).alloc _
    have t45 := H4.out.1.trans t5
    have b5 : W5.heap[bt]? = some (Obj.cells #[.slice ao rt.length cp] 28) := by rw [hW5, hbt]; exact World.alloc_heap_new w4 _
    exact ⟨⟨_, _, H3.out.2.touch t45 (fun x => x) (fun x => x)⟩, b5, (H4.out.2.base H3.out.1.size).touch t5 (fun _ _ x => x), H3.out.1.trans t45, by rw [hbt]; exact (H3.out.1.trans H4.out.1).size⟩
  clear hbt hW5 H4 H3 H2 H1
  refine wpIn_label ?_
  gi_wp2_with fail
  gi_loopg [] rt.length (fun g wr => Hid (∃ td v, (td.length ≤ g ∧ td.length ≤ 1000) ∧ NlI w p q bt td v wr))
  case atStart => exact ⟨rt, _, ⟨Nat.le_refl _, hb⟩, H5.out⟩
  case round =>
    clear H5
    obtain ⟨td, v, hg, hI⟩ := hrel.out
    rcases List.eq_nil_or_concat td with rfl | ⟨td, x, rfl⟩
    · obtain ⟨ao', cp', rfl⟩ := own_shape hI.ow
      obtain ⟨cb, fb⟩ := box1 hI.bx
      have HI := Lib.hid hI
      clear hI hrel hg
      gi_wp2_with fail
      rw [Exit.noGoto_ret]
      exact ⟨.pointer (some ⟨p, 0, none⟩), by simp [results, Tryz.f52, go_sem], p, q, rfl, HI.out.t, HI.out.se⟩
    · rw [List.concat_eq_append] at hI hg
      obtain ⟨g, cap, rfl, hcp, hcell, how⟩ := ow_last hI.ow
      obtain ⟨cb, fb⟩ := box1 hI.bx
      obtain ⟨k, hk⟩ : ∃ k, td.length = k := ⟨_, rfl⟩
      have HW := Lib.hid (And.intro hI (And.intro how (And.intro hg hk)))
      rw [hk] at cb hcp hcell
      clear hI how hk hrel
      have hkb : k ≤ 1000000 := by have h1 := hg.2; have h2 := HW.out.2.2.2; rw [List.length_append] at h1; omega
      clear hg
      gi_wp2_with fail
      have H6 : Hid (NlI w p q bt td (.slice (some ⟨g, 0, none⟩) k cap) (wr.setCell ⟨bt, 0, none⟩ (.slice (some ⟨g, 0, none⟩) k cap)) ∧ k + 1 ≤ gk ∧ td.length = k ∧ k ≤ 1000) := by
        obtain ⟨h1, h2, h3, h4⟩ := HW.out
        rw [List.length_append, h4, List.length_singleton] at h3
        have := h1.pop h2 (by simp)
        rw [h4] at this
        exact ⟨this, h3.1, h4, by omega⟩
      refine ⟨trivial, rfl, ?_⟩
      refine (callsIn_wide.2 (heap_nil_Is x _)).mono ?_
      rintro e w7 ⟨rfl, rfl⟩
      gi_wp2
      refine ⟨trivial, ?_⟩
      gi_wp2
      gi_roundg k
      case measure => have := H6.out.2.1; omega
      case rel => exact ⟨td, _, ⟨Nat.le_of_eq H6.out.2.2.1, by have := H6.out.2.2; omega⟩, H6.out.1⟩
theorem nil_Reach (roots : Value) (rt : List Int) (hL : Limits w) (hT : Tab w) (hr : IntsIn w roots rt) (hb : rt.length ≤ 1000) :
    Calls Tryz.prog 15 #[.pointer none, roots] w fun e w' => e = .returned (.slice none 0 0) ∧ Touch nob w w' := by
  have HT := Lib.hid hT
  have HR := Lib.hid (nil_reached roots rt hL hr hb)
  clear hL hT hr
  go_enter Tryz.func15, Tryz.ntmps15
  go_wp2_with (go_at_call 52; fail)
  refine HR.out.mono ?_
  rintro e w1 ⟨p, q, rfl, t1, cap, ws, hs⟩
  have H1 := Lib.hid (And.intro t1 hs)
  clear t1 hs
  go_wp2_with (go_at_call 53; fail)
  refine (set_All w1 _).mono ?_
  rintro e w2 ⟨b, rfl, t2, hb2, hbx⟩
  have H2 := Lib.hid (And.intro t2 hbx)
  clear t2 hb2 hbx
  go_wp2_with (go_at_call 51; fail)
  refine (collect_none (Pr := fun k => k = 0) 100 _ (enters_of Tryz.func100 (by kernel_rfl) rfl) ?_ ?_).mono ?_
  · rintro k rfl
    exact Nat.lt_of_lt_of_le HT.out.lt (Nat.le_trans H1.out.1.size H2.out.1.size)
  · intro W' hW'
    have ht := H2.out.1.trans hW'
    have := all1_iter b (H1.out.2.touch ht (fun x => x) (fun x => x)) ((HT.out.touch H1.out.1 (fun x => x)).touch ht (fun x => x)) (blk_touch H2.out.2 hW' (fun x => x))
    rwa [show elems (fun _ => false) 1 = [] from rfl] at this
  rintro e w3 ⟨rfl, t3⟩
  have H3 := Lib.hid ((H1.out.1.trans H2.out.1).trans t3)
  clear t3
  go_wp2
  go_ret
  exact ⟨rfl, H3.out⟩
theorem nil_has {p q cap : Nat} {ws : List Nat} (hs : SetAt w p q cap ws 1 (fun _ => false)) (x : Int) :
    Calls Tryz.prog 55 #[.pointer (some ⟨p, 0, none⟩), .int .i64 x] w fun e w' => e = .returned (.bool false) ∧ w = w' := by
  refine (set_Has x hs).mono ?_
  rintro e w' ⟨rfl, h⟩
  exact ⟨ret_b (by unfold hasB; simp), h⟩
theorem nil_Reaches (a b : Int) (hL : Limits w) :
    Calls Tryz.prog 23 #[.pointer none, .int .i64 a, .int .i64 b] w fun e w' => e = .returned (.bool false) ∧ Touch nob w w' := by
  have HL := Lib.hid hL
  clear hL
  go_enter Tryz.func23, Tryz.ntmps23
  go_wp2_with (go_at_call 52; fail)
  refine (nil_reached (w := w.alloc (Obj.cells #[.int .i64 a] 3)) _ [a] (HL.out.touch ((Touch.refl nob _).alloc _) (fun x => x)) ?_ (by simp)).mono ?_
  · exact ⟨_, _, rfl, .inr ⟨w.heap.size, 0, rfl, by simp, fun j hj => by
      obtain rfl : j = 0 := by simpa using hj
      exact one_cell (World.alloc_heap_new w _)⟩⟩
  rintro e w1 ⟨p, q, rfl, t1, cap, ws, hs⟩
  have H1 := Lib.hid (((Touch.refl nob w).alloc _).trans t1)
  have HS := Lib.hid (nil_has hs b)
  clear t1 hs
  go_wp2_with (go_at_call 55; fail)
  refine HS.out.mono ?_
  rintro e w2 ⟨rfl, rfl⟩
  go_wp2
  go_ret
  exact ⟨rfl, H1.out⟩
theorem nil_Garbage (roots : Value) (rt : List Int) (hL : Limits w) (hr : IntsIn w roots rt) (hb : rt.length ≤ 1000) :
    Calls Tryz.prog 17 #[.pointer none, roots] w fun e w' => ∃ v, e = .returned v ∧ Touch nob w w' ∧ Ow w' w.heap.size v [] := by
  have HR := Lib.hid (nil_reached roots rt hL hr hb)
  clear hL hr
  go_enter Tryz.func17, Tryz.ntmps17
  go_wp2_with (go_at_call 52; fail)
  refine HR.out.mono ?_
  rintro e w1 ⟨p, q, rfl, t1, cap, ws, hs⟩
  have H1 := Lib.hid (And.intro t1 hs)
  clear t1 hs
  go_wp2_with (go_at_call 19; fail)
  refine (heap_nil_Objects w1).mono ?_
  rintro e w2 ⟨rfl, rfl⟩
  have hdel := delete_func (p := fun _ => false) w1.heap.size (.slice none 0 0) p (xs := []) (World.ownsRow_nil _ _ _ _) (by simp) (fun W3 ht x => nil_has (H1.out.2.touch ht (fun x => by cases x) (fun x => by cases x)) x)
  have H2 := Lib.hid hdel
  clear hdel
  go_wp2_with (go_at_call 54; fail)
  refine H2.out.mono ?_
  rintro e w3 ⟨v3, rfl, t3, o3⟩
  obtain ⟨ao3, cp3, rfl⟩ := o3.ints.shape
  have H3 := Lib.hid (And.intro (H1.out.1.step t3 (fun b hb => by cases hb)) (o3.base H1.out.1.size))
  clear t3 o3
  go_wp2
  go_ret
  exact ⟨_, rfl, H3.out⟩
theorem nil_ed (b b' : Nat) (a : Int) (hb : w.heap[b]? = some (Obj.cells #[.pointer none] 31)) (hb' : w.heap[b']? = some (Obj.cells #[.int .i64 a] 3)) :
    Iter Tryz.prog 56 #[.pointer (some ⟨b, 0, none⟩), .pointer (some ⟨b', 0, none⟩)] (fun p : Int × Int => #[.int .i64 p.1, .int .i64 p.2]) AbD (fun _ _ => True) [] (fun j => j = b ∨ j = b') w := by
  intro l J Jx W2 O hTo hJ hJx hY h0 hPr hO
  obtain ⟨cb, fb⟩ := box1 (blk_touch hb hTo (fun x => x))
  obtain ⟨cb', fb'⟩ := box1 (blk_touch hb' hTo (fun x => x))
  have H0 : Hid (J [] O W2) := h0
  clear hTo hb hb' hJ hJx hY h0 hPr hO
  refine callsIn_of_wp Tryz.func56 rfl trivial ?_ rfl
  simp only [Tryz.ntmps56, List.size_toArray, List.length_cons, List.length_nil, Nat.reduceAdd, Nat.reduceSub, Array.replicate_succ, Array.replicate_zero, List.push_toArray, List.append_toArray, List.nil_append, List.cons_append]
  gi_wp2_with fail
  refine wpIn_wide.2 (wp_scope_straight ((wpIn_wide (n := 0)).1 ?_))
  gi_wp2_with fail
  refine ⟨trivial, rfl, ?_⟩
  refine (callsIn_wide.2 (heap_nil_Is a W2)).mono ?_
  rintro e W3 ⟨rfl, rfl⟩
  gi_wp2
  rw [Exit.noGoto_ret]
  refine bodyPost_ret (results_none rfl _ _ _) rfl ?_
  exact ⟨⟨_, rfl⟩, O, .inl H0.out⟩
theorem nil_Mark (col room : Int) (roots : Value) (w : World) :
    Calls Tryz.prog 46 #[.pointer none, .int .i64 col, .int .i64 room, roots] w fun e w' => e = .returned (.tuple #[.int .i64 0, .int .i64 0, .int .i64 11]) ∧ Touch nob w w' := by
  have hs : ∀ W : World, Calls Tryz.prog 74 #[.int .i64 room] W fun e w' => ∃ v E, e = .returned (.tuple #[.pointer v, .int .i64 E]) ∧ Touch nob W w' := fun W => by
    by_cases h : room < 1 ∨ 4096 < room
    · exact (stack_New_no room h W).mono fun e w' ⟨h1, h2⟩ => ⟨_, _, h1, h2 ▸ Touch.refl _ _⟩
    · exact (stack_New_ok room (by omega) (by omega) W).mono fun e w' ⟨h1, h2, _⟩ => ⟨_, _, h1, h2⟩
  have HS := Lib.hid hs
  clear hs
  obtain ⟨W0, hW0⟩ : ∃ W0, W0 = (w.alloc (Obj.cells #[.pointer none] 31)).alloc (Obj.cells #[.int .i64 col] 3) := ⟨_, rfl⟩
  have t0 : Touch nob w W0 := by rw [hW0]; (repeat (first | with_reducible exact Touch.refl _ _ | with_reducible assumption | with_reducible apply Touch.alloc | with_reducible apply Touch.drewN | with_reducible apply Touch.drew | with_reducible refine Touch.setCell ?_ (.inr (by first | omega | (simp; done) | (simp; omega))) _))
  have b0 : W0.heap[w.heap.size]? = some (Obj.cells #[.pointer none] 31) := by rw [hW0]; exact alloc2_0 w _ _
  have H0 := Lib.hid (And.intro t0 b0)
  clear t0 b0
  go_enter Tryz.func46, Tryz.ntmps46
  go_wp2_with (go_at_call 74; fail)
  rw [← hW0]
  clear hW0
  refine (HS.out W0).mono ?_
  rintro e w1 ⟨v, E, rfl, t1⟩
  obtain ⟨x0, y0⟩ := box1 (blk_touch H0.out.2 t1 (fun x => x))
  have H1 := Lib.hid (H0.out.1.trans t1)
  clear t1
  go_wp2
  refine bodyPost_ret (v := .tuple #[.int .i64 0, .int .i64 0, .int .i64 11]) (by simp [results, Tryz.results46, go_sem]) rfl ⟨rfl, H1.out⟩
end Go.Proofs.YtnobempbcdkoaaaGreatDoor
