/- The document's heap: Store, walked. Conditions: none beyond what each says. The document's heap: Store that is done, walked. Conditions: none beyond what each says. The document's heap: Release, walked. Conditions: none beyond what each says. The document's heap: All, walked. Conditions: none beyond what each says. The document's heap: New, walked. Conditions: none. The document's heap: Assign: refusals, walked. Conditions: none beyond what each says. The document's heap: one slot more. Conditions: none. The document's heap: what Assign lays. Conditions: none. The document's heap: Assign, walked. Conditions: none beyond what each says. -/
import Derived.Test.YtnobempbcdkoaaaGreatDoorRf1
import Derived.Test.YtnobempbcdkoaaaGreatDoorLow
namespace Go.Proofs.YtnobempbcdkoaaaGreatDoor
open Go.RowKit

variable {w w' : World} {O T : Nat → Prop} {m qx : Nat} {c : Cf} {R : Rh} {v : Nat → Value} {sv : Value} {cx : Nat}
theorem set_swap (w : World) {a b : Addr} (u x : Value) (h : a.block ≠ b.block) : (w.setCell a u).setCell b x = (w.setCell b x).setCell a u := by
  unfold World.setCell
  congr 1
  refine Array.ext (by simp) fun i h1 h2 => ?_
  simp only [Array.getElem_modify]
  by_cases e1 : a.block = i <;> by_cases e2 : b.block = i <;> simp_all
theorem SlAt.set_own {g o n cap j : Nat} {xs : List Int} (h : SlAt w (.slice (some ⟨g, o, none⟩) n cap) xs) (x : Int) (hj : j < xs.length) : SlAt (w.setCell ⟨g, o + j, none⟩ (.int .i64 x)) (.slice (some ⟨g, o, none⟩) n cap) (xs.set j x) := by
  rcases h with ⟨h, _⟩ | ⟨g, o, cap, cur, h, h1, h2, h3⟩
  · cases h
  cases h
  refine .inr ⟨g, o, cap, _, by rw [List.length_set], by rw [List.length_set]; exact h1, set_cells _ _ h2, fun i hi => ?_⟩
  rw [List.length_set] at hi
  rw [Array.getElem?_setIfInBounds]
  have hlt := (Array.getElem?_eq_some_iff.1 (h3 i hi)).1
  by_cases e : j = i
  · subst e
    rw [if_pos rfl, if_pos hlt]
    simp [List.getD_eq_getElem?_getD, hj]
  · rw [if_neg (by omega), h3 i hi]
    simp [List.getD_eq_getElem?_getD, e]
end Go.Proofs.YtnobempbcdkoaaaGreatDoor
namespace Go.Proofs.YtnobempbcdkoaaaGreatDoor
open Go.RowKit

variable {w w' : World} {O T : Nat → Prop} {m qx : Nat} {c : Cf} {R : Rh} {v : Nat → Value} {sv : Value} {cx : Nat}
end Go.Proofs.YtnobempbcdkoaaaGreatDoor
namespace Go.Proofs.YtnobempbcdkoaaaGreatDoor
open Go.RowKit

variable {w w' : World} {O T : Nat → Prop} {m qx : Nat} {c : Cf} {R : Rh} {v : Nat → Value} {sv : Value} {cx : Nat}
theorem rf_Release_no (a x : Int) (h : RfAt w O m qx c R) (hl : R.L.length ≤ 4096) (hx : isV R.L a = x) (hb : x ≠ 2) :
    Calls Tryz.prog 88 #[.pointer (some ⟨m, 0, none⟩), .int .i64 a] w fun e w' => e = .returned (.int .i64 1) ∧ w = w' := by
  have H := Lib.hid (rf_is_eq h hl hx)
  have hb1 : (x != 2) = true := by simpa using hb
  clear h hx
  go_enter Tryz.func88, Tryz.ntmps88
  go_wp2_with (go_at_call 133; fail)
  refine H.out.mono ?_
  rintro e w2 ⟨rfl, rfl⟩
  go_wp2
  go_ret
  exact ⟨rfl, rfl⟩
theorem posA_set : ∀ {L : List Rs} {i : Nat} {s s' : Rs} (_ : L[i]? = some s) (_ : s'.a = s.a) (a : Int), posA (L.set i s') a = posA L a
  | [], _, _, _, h, _, _ => by simp at h
  | t :: L, 0, s, s', h, ha, a => by
    simp at h
    subst h
    unfold posA
    simp only [List.set_cons_zero, List.findIdx_cons, ha]
  | t :: L, i + 1, s, s', h, ha, a => by
    have ih := posA_set (L := L) (i := i) (s := s) (s' := s') (by simpa using h) ha a
    unfold posA at ih ⊢
    simp only [List.set_cons_succ, List.findIdx_cons, ih]
theorem rf_Release (i k : Nat) (s : Rs) (h : RfAt w O m qx c R) (hl : R.L.length ≤ 4096) (hi : R.L[i]? = some s) (hp : posA R.L s.a = i) (his : s.is = 2) (hk : s.k = k) (k4 : k < 4) (hf : (R.F k).length ≤ 4096) :
    Calls Tryz.prog 88 #[.pointer (some ⟨m, 0, none⟩), .int .i64 s.a] w fun e w' => e = .returned (.int .i64 0) ∧ ∃ O', Touch O w w' ∧ Sub w O' O ∧ RfAt w' O' m qx c (R.put i k s) := by
  obtain ⟨n, hn⟩ : ∃ n, R.L.length = n := ⟨_, rfl⟩
  obtain ⟨g, cap, v, cx, hb, og, S⟩ := h.sa hn hi
  have H := Lib.hid (rf_is_eq h hl ((isV_at hi hp).trans his))
  have HA := Lib.hid (fun nn => rf_At_eq (h.old ((Touch.refl nob w).drewN nn)) hl hp (by rw [hn]; exact S.lt))
  have HB := Lib.hid (And.intro hb (And.intro og (And.intro hi (And.intro hp (And.intro hl (And.intro hf hk))))))
  rw [hn] at hl
  obtain ⟨d8, -, -, e2, -, -, -, f2, -, -, -, hcap, hlt, hbd⟩ := S
  clear h hi hp hb og hn his hf hk
  go_enter Tryz.func88, Tryz.ntmps88
  go_wp2_with (go_at_call 133; fail)
  refine H.out.mono ?_
  rintro e w2 ⟨rfl, rfl⟩
  go_wp2_with fail
  refine wp_region_quiet_tail_drew 9 (by kernel_rfl) (by kernel_rfl) ?_
  simp only [List.take_succ_cons, List.take_zero, List.drop_succ_cons, List.drop_zero]
  repeat (go_big_quiet_step (((go_at_call 134; exact Calls.quiet_of_same ((HA.out _).mono fun _ _ h => ⟨h.1, h.2.symm⟩)))))
  refine wpQuiet_nil ?_; intro _ hw'; obtain ⟨nq, hw''⟩ := hw'; subst hw''
  go_wp2_with (go_at_call 129; fail)
  generalize hw : World.setCell (World.drewN w _) _ _ = w3
  have hb3 : RfB w3 O m qx c (R.setS i { s with is := 0 }) (.slice (some ⟨g, 0, none⟩) n cap) v cx := by
    rw [← hw]
    exact (HB.out.1.touch ((Touch.refl nob w).drewN _) (fun _ _ x => x)).one (j := 2) HB.out.2.2.1 (by omega) rfl rfl rfl
  have hT3 : Touch O w w3 := by
    rw [← hw]
    exact (((Touch.refl nob w).drewN _).mono fun _ _ x => x.elim).trans ((touch_set _ _ _ _).mono fun b _ e => by rw [e]; exact HB.out.2.1)
  have hi3 : (R.setS i { s with is := 0 }).L[i]? = some { s with is := 0 } := List.getElem?_set_self (List.getElem?_eq_some_iff.1 HB.out.2.2.1).1
  have hp3 : posA (R.setS i { s with is := 0 }).L s.a = i := (posA_set (s' := { s with is := 0 }) HB.out.2.2.1 rfl s.a).trans HB.out.2.2.2.1
  have hl3 : (R.setS i { s with is := 0 }).L.length ≤ 4096 := by unfold Rh.setS; simp only [List.length_set]; exact HB.out.2.2.2.2.1
  have hput := rf_Put_ok i k { s with is := 0 } ⟨_, _, _, hb3⟩ hl3 hi3 hp3 rfl HB.out.2.2.2.2.2.2 k4 HB.out.2.2.2.2.2.1
  have HP := Lib.hid hput
  have HT := Lib.hid hT3
  clear hput hb3 hT3 hi3 hp3 hl3 hw
  refine HP.out.mono ?_
  rintro e w4 ⟨rfl, O', t1, t2, t3⟩
  have HF := Lib.hid (And.intro t1 (And.intro t2 t3))
  clear t1 t2 t3
  go_wp2
  go_ret
  obtain ⟨t1, t2, t3⟩ := HF.out
  refine ⟨rfl, O', HT.out.trans t1, fun b hb => (t2 b hb).imp id (fun h => Nat.le_trans HT.out.size h), ?_⟩
  have e : (R.setS i { s with is := 0 }).put i k { s with is := 0 } = R.put i k s := by
    unfold Rh.put
    rw [setS_setS]
    rfl
  rwa [e] at t3
end Go.Proofs.YtnobempbcdkoaaaGreatDoor
namespace Go.Proofs.YtnobempbcdkoaaaGreatDoor
open Go.RowKit

variable {w w' : World} {O T : Nat → Prop} {m qx : Nat} {c : Cf} {R : Rh} {v : Nat → Value} {sv : Value} {cx : Nat}
/-- The addresses of what is so. -/
def allL (L : List Rs) (is : Int) (z : Nat) : List Int := ((List.range z).map fun (x : Nat) => (x : Int) + 1).filter fun a => isV L a == is
theorem allL_succ (L : List Rs) (is : Int) (j : Nat) : allL L is (j + 1) = allL L is j ++ (if (isV L ((j : Int) + 1) == is) = true then [(j : Int) + 1] else []) := by
  unfold allL
  rw [List.range_succ, List.map_append, List.filter_append]
  simp only [List.map_cons, List.map_nil, List.filter_cons, List.filter_nil]
theorem allL_len (L : List Rs) (is : Int) (j : Nat) : (allL L is j).length ≤ j := by
  unfold allL
  exact Nat.le_trans (List.length_filter_le _ _) (by simp)
end Go.Proofs.YtnobempbcdkoaaaGreatDoor
namespace Go.Proofs.YtnobempbcdkoaaaGreatDoor
open Go.RowKit

variable {w w' : World}
/-- A new one. -/
def newR (n : Nat) : Rh := ⟨0, [], fun _ => [], List.replicate n 0⟩
set_option maxHeartbeats 4000000 in
theorem rf_New (c : Cf) (n : Nat) (hn : c.c4 = n) (hn1 : n ≤ 64) (w : World) :
    Calls Tryz.prog 84 #[c.V] w fun e w' => ∃ m qx O, e = .returned (.pointer (some ⟨m, 0, none⟩)) ∧ Touch nob w w' ∧ (∀ b, O b → w.heap.size ≤ b ∧ b < w'.heap.size) ∧ RfAt w' O m qx c (newR n) := by
  obtain ⟨c0, c1, c2, c3, c4, c5, c6⟩ := c
  obtain rfl : c4 = n := hn
  obtain ⟨i0, hi, hz0, hzs, hzb⟩ := info_parts info_int2
  obtain ⟨gm, hgm⟩ := Classical.axiomOfChoice (fun w1 : World => run_make_full (P := Tryz.prog) w1 w1.heap.size 28 3 i0 (.int .i64 0) 1 Tryz.underlying28 hi hz0 hzs .i64 .i64 n (by rw [hzb]; omega) (by unfold maxLen; omega) (Nat.le_refl _))
  have hrun := fun w1 => (hgm w1).1
  have HG := Lib.hid (fun w1 => show Touch nob w1 (gm w1) from (Touch.refl nob w1).grown (hgm w1).2.2 (fun _ h => by cases h))
  have HW := Lib.hid (fun w1 => (hgm w1).2.1)
  clear hgm
  go_enter Tryz.func84, Tryz.ntmps84
  go_wp2_with fail
  obtain ⟨W, hW⟩ : ∃ W, W = w.alloc (Obj.cells (CfgRow c0 c1 c2 c3 n c5 c6) 23) := ⟨_, rfl⟩
  have hT : Touch nob w W := by rw [hW]; (repeat (first | with_reducible exact Touch.refl _ _ | with_reducible assumption | with_reducible apply Touch.alloc | with_reducible apply Touch.drewN | with_reducible apply Touch.drew | with_reducible refine Touch.setCell ?_ (.inr (by first | omega | (simp; done) | (simp; omega))) _))
  have hbx : W.heap[w.heap.size]? = some (Obj.cells (CfgRow c0 c1 c2 c3 n c5 c6) 23) := by rw [hW]; exact World.alloc_heap_new w _
  obtain ⟨b0, hb0⟩ : ∃ b, b = w.heap.size := ⟨_, rfl⟩
  rw [← hW, ← hb0]
  rw [← hb0] at hbx
  have hgb : (gm W.drew).heap[b0]? = some (Obj.cells (CfgRow c0 c1 c2 c3 n c5 c6) 23) := blk_touch hbx ((Touch.refl nob W).drew.trans (HG.out W.drew)) (fun x => x)
  have HT := Lib.hid (And.intro hT hb0)
  have hlt := blk_lt hbx
  obtain ⟨y0, y1, y2, y3, y4, y5, y6⟩ := cfg_box hbx (Touch.refl nob W)
  obtain ⟨x0, x1, x2, x3, x4, x5, x6⟩ := cfg_box hgb (Touch.refl nob _)
  clear hW hT hb0 hbx hgb
  go_region
  all_goals
    go_wp2
    go_ret
    have g1 := HG.out W.drew
    have g2 := HW.out W.drew
    rw [made_ints] at g2
    have hk : kint [] n = List.replicate n 0 := by unfold kint; simp
    rw [hk] at g2
    have hrow : RowAt (gm W.drew) W.heap.size 3 n ((List.replicate n (0 : Int)).map (.int .i64)) := (RowAt.of_owns g2).1
    have ht1 : Touch nob w (gm W.drew) := HT.out.1.drew.trans g1
    have hs0 : w.heap.size ≤ W.heap.size := HT.out.1.size
    have hs1 : W.heap.size < (gm W.drew).heap.size := hrow.lt
    refine ⟨(gm W.drew).heap.size, W.heap.size, fun b => b = (gm W.drew).heap.size ∨ b = W.heap.size, rfl, ht1.alloc _, fun b hb => ?_, .slice none 0 0, fun _ => .slice none 0 0, n, ?_⟩
    · rw [World.size_alloc]
      omega
    · refine ⟨?_, hrow.touch (Touch.alloc (Touch.refl nob _) _) (fun x => x), World.ownsRow_nil _ _ _ _, fun _ _ => SlAt.nil _, fun _ h => (by cases h), .inl rfl, .inr rfl, fun _ h => (by cases h), fun _ _ _ h => (by cases h), fun _ h => (by cases h), fun b hb => (by rw [World.size_alloc]; omega)⟩
      have hh := World.alloc_heap_new (gm W.drew) (Obj.cells #[.int .i64 c0, .int .i64 c1, .int .i64 c2, .int .i64 c3, .int .i64 n, .int .i64 c5, .int .i64 c6, .int .i64 0, .slice none 0 0, .slice none 0 0, .slice none 0 0, .slice none 0 0, .slice none 0 0, .slice (some ⟨W.heap.size, 0, none⟩) n n] 181)
      rw [show (newR n).x.length = n from List.length_replicate]
      exact hh
end Go.Proofs.YtnobempbcdkoaaaGreatDoor
namespace Go.Proofs.YtnobempbcdkoaaaGreatDoor
open Go.RowKit

variable {w w' : World} {O T : Nat → Prop} {m qx : Nat} {c : Cf} {R : Rh}
theorem rf_Assign_no (k : Int) (hk : isCls k = false) (w : World) :
    Calls Tryz.prog 128 #[.pointer (some ⟨m, 0, none⟩), .int .i64 k] w fun x w' => x = .returned (.tuple #[.slice none 0 0, .int .i64 1]) ∧ w = w' := by
  have HK := Lib.hid hk
  clear hk
  go_enter Tryz.func128, Tryz.ntmps128
  go_wp2_with (go_at_call 156; fail)
  refine (ref03_Is k w).mono ?_
  rintro e w2 ⟨rfl, rfl⟩
  rw [HK.out]
  go_wp2
  go_ret2
  exact ⟨rfl, rfl⟩
set_option maxRecDepth 10000 in
theorem rf_Assign_full (k : Int) (hk : isCls k = true) (h : RfAt w O m qx c R) (hu : R.u = c.c0) :
    Calls Tryz.prog 128 #[.pointer (some ⟨m, 0, none⟩), .int .i64 k] w fun x w' => x = .returned (.tuple #[.slice none 0 0, .int .i64 10]) ∧ Touch nob w w' := by
  have HK := Lib.hid hk
  obtain ⟨sv, v, cx, hb⟩ := h
  obtain ⟨d7, -⟩ := hb.boxes
  have d0 : w.cell? ⟨m, 0, none⟩ = some (.int .i64 c.c0) := by simp [World.cell?, hb.box]
  rw [hu] at d7
  clear hk hb hu
  go_enter Tryz.func128, Tryz.ntmps128
  go_wp2_with (go_at_call 156; fail)
  refine (ref03_Is k w).mono ?_
  rintro e w2 ⟨rfl, rfl⟩
  rw [HK.out]
  go_wp2_with fail
  go_quiet (fail)
  go_wp2
  go_ret2
  exact ⟨rfl, (Touch.refl _ _).drewN _⟩
end Go.Proofs.YtnobempbcdkoaaaGreatDoor
namespace Go.Proofs.YtnobempbcdkoaaaGreatDoor
open Go.RowKit

variable {w w' : World} {O T : Nat → Prop} {m qx : Nat} {c : Cf} {R : Rh} {v : Nat → Value} {sv : Value} {cx : Nat}
def Rh.addS (R : Rh) (s : Rs) : Rh := { R with L := R.L ++ [s] }
/-- A slot more: another row, or the same one. -/
theorem RfB.app {s : Rs} {sv' : Value} {w3 : World} (h : RfB w O m qx c R sv v cx) (hs : s.f = [] ∧ s.v = .slice none 0 0) (hown : w3.ownsRow 0 186 6 sv' (R.L.length + 1) (rowsL R.L ++ s.row)) (hg : w.grownBy w3 sv.ownBlock) (hat : ∀ b, sv'.ownBlock = some b → sv.ownBlock = some b ∨ w.heap.size ≤ b) :
    ∃ O', Touch O w (w3.setCell ⟨m, 8, none⟩ sv') ∧ Sub w O' O ∧ RfB (w3.setCell ⟨m, 8, none⟩ sv') O' m qx c (R.addS s) sv' v cx := by
  have tm : 181 ≠ 3 := by decide
  have ts : 186 ≠ 3 := by decide
  have ht : Touch (fun b => sv.ownBlock = some b) w w3 := Touch.grown (Touch.refl _ _) hg (fun k e => .inl e)
  have nb : ∀ b, sv.ownBlock = some b → ∃ cs, w.heap[b]? = some (.cells cs 186) := by
    intro b hb
    obtain ⟨_, ⟨h1, _⟩ | ⟨g, cap, cur, h1, _, hh, _⟩⟩ := h.row
    · rw [h1] at hb; cases hb
    · rw [h1] at hb; cases hb; exact ⟨_, hh⟩
  have keepI : ∀ {u : Value} {xs : List Int}, SlAt w u xs → SlAt w3 u xs := fun {u xs} hu => hu.touch ht (fun b hb hT => by
    obtain ⟨cs, hc⟩ := nb b hT
    exact hu.ne hc ts b hb rfl)
  have hbox : w3.heap[m]? = _ := blk_touch h.box ht (fun hT => by
    obtain ⟨cs, hc⟩ := nb m hT
    have := h.box.symm.trans hc
    simp at this)
  have hxs := h.xs.touch ht (fun hT => by
    obtain ⟨cs, hc⟩ := nb qx hT
    obtain ⟨cur', hx, _⟩ := h.xs
    have := hx.symm.trans hc
    simp at this)
  have nx : qx ≠ m := by
    rintro rfl
    obtain ⟨cur', hx, _⟩ := h.xs
    have := hx.symm.trans h.box
    simp at this
  have htt : Touch (fun b => b = m) w3 (w3.setCell ⟨m, 8, none⟩ sv') := touch_set _ _ _ _
  refine ⟨fun b => O b ∨ sv'.ownBlock = some b, (ht.mono fun b _ e => h.os b e).trans (htt.mono fun b _ e => by rw [e]; exact h.om), fun b hb => ?_, ?_⟩
  · rcases hb with hb | hb
    · exact .inl hb
    · exact (hat b hb).imp (h.os b) id
  refine ⟨?_, hxs.other nx _ _, owns_touch ?_ htt (fun b hb e => ?_), fun k hk => (keepI (h.ff k hk)).set hbox tm _ _, fun t ht => ?_, .inl h.om, .inl h.ox, fun b hb => .inr hb, fun k hk b hb => ⟨.inl (h.of k hk b hb).1, (h.of k hk b hb).2⟩, fun t ht b hb => ?_, fun b hb => ?_⟩
  · rw [set_cells 8 sv' hbox]
    rfl
  · show World.ownsRow w3 0 _ 6 sv' (R.L ++ [s]).length (rowsL (R.L ++ [s]))
    rw [rowsL_snoc, List.length_append]
    exact hown
  · subst e
    obtain ⟨_, ⟨h1, _⟩ | ⟨g, cap, cur, h1, _, hh, _⟩⟩ := hown
    · rw [h1] at hb; cases hb
    · rw [h1] at hb
      cases hb
      have := hbox.symm.trans hh
      simp at this
  · rcases List.mem_append.1 ht with ht | ht
    · exact (keepI (h.fs t ht)).set hbox tm _ _
    · rw [List.mem_singleton] at ht
      subst ht
      rw [hs.1, hs.2]
      exact SlAt.nil _
  · rcases List.mem_append.1 ht with ht | ht
    · exact ⟨.inl (h.og t ht b hb).1, (h.og t ht b hb).2⟩
    · rw [List.mem_singleton] at ht
      subst ht
      rw [hs.2] at hb
      cases hb
  · have h1 : b < w3.heap.size := by
      rcases hb with hb | hb
      · exact Nat.lt_of_lt_of_le (h.lt b hb) ht.size
      · exact (World.ownsRow.lt hown b hb).2
    simpa [World.setCell] using h1
end Go.Proofs.YtnobempbcdkoaaaGreatDoor
namespace Go.Proofs.YtnobempbcdkoaaaGreatDoor
open Go.RowKit

theorem info_slot : (Tryz.prog.info? 186).map (fun i => (i.zero, i.size, i.bytes)) = some (some (.agg #[.int .i64 0, .int .i64 0, .int .i64 0, .int .i64 0, .bool false, .slice none 0 0]), 6, 64) := by kernel_rfl
/-- A slot in hand, not begun. -/
def newS (a k : Int) : Rs := ⟨a, k, 0, 0, false, [], .slice none 0 0⟩
/-- The first j slots of a block. -/
def newL (c1 k b : Int) (j : Nat) : List Int := (List.range j).map fun (x : Nat) => plA c1 k b x 0
theorem newL_succ (c1 k b : Int) (j : Nat) : newL c1 k b (j + 1) = newL c1 k b j ++ [plA c1 k b j 0] := by
  unfold newL
  rw [List.range_succ]
  simp
theorem newL_len (c1 k b : Int) (j : Nat) : (newL c1 k b j).length = j := by simp [newL]
end Go.Proofs.YtnobempbcdkoaaaGreatDoor
namespace Go.Proofs.YtnobempbcdkoaaaGreatDoor
open Go.RowKit
open Go.Sort

variable {w w' : World} {O T : Nat → Prop} {m qx : Nat} {c : Cf} {R : Rh}
def Rh.addL (R : Rh) (l : List Int) (k : Int) : Rh := { R with L := R.L ++ l.map fun a => newS a k }
theorem addL_snoc (R : Rh) (l : List Int) (a k : Int) : (R.addL l k).addS (newS a k) = R.addL (l ++ [a]) k := by
  unfold Rh.addL Rh.addS
  simp
/-- Behind j rounds. -/
def AsI (w : World) (O : Nat → Prop) (m qx : Nat) (c : Cf) (R : Rh) (k : Int) (j : Nat) (v : Value) (wr : World) : Prop :=
  ∃ O', Touch O w wr ∧ Sub w O' O ∧ Ow wr w.heap.size v (newL c.c1 k R.u j) ∧ RfAt wr O' m qx c (R.addL (newL c.c1 k R.u j) k) ∧ ∀ b, v.ownBlock = some b → ¬ O' b
theorem newS_one (a k : Int) : ∀ u ∈ [Value.int .i64 a, .int .i64 k, .int .i64 0, .int .i64 0, .bool false, .slice none 0 0], u.oneCell' = true := by
  intro u hu
  simp only [List.mem_cons, List.not_mem_nil, or_false] at hu
  rcases hu with rfl | rfl | rfl | rfl | rfl | rfl <;> rfl
theorem owns_slice {e : TypeId} {base size n : Nat} {v : Value} {xs : List Value} (h : w.ownsRow base e size v n xs) : ∃ ao n cap, v = .slice ao n cap := by
  obtain ⟨_, ⟨h1, _⟩ | ⟨g, cap, cur, h1, _⟩⟩ := h
  · exact ⟨_, _, _, h1⟩
  · exact ⟨_, _, _, h1⟩
/-- The box stays while the slots' row grows. -/
theorem RfB.app_box {sv : Value} {v : Nat → Value} {cx : Nat} {w3 : World} (h : RfB w O m qx c R sv v cx) (hg : w.grownBy w3 sv.ownBlock) : w3.cell? ⟨m, 8, none⟩ = some sv ∧ w3.frozen? ⟨m, 8, none⟩ = false := by
  have ht : Touch (fun b => sv.ownBlock = some b) w w3 := Touch.grown (Touch.refl _ _) hg (fun k e => .inl e)
  have hbox : w3.heap[m]? = _ := blk_touch h.box ht (fun hT => by
    obtain ⟨_, ⟨h1, _⟩ | ⟨g, cap, cur, h1, _, hh, _⟩⟩ := h.row
    · have hT : sv.ownBlock = some m := hT
      rw [h1] at hT
      cases hT
    · have hT : sv.ownBlock = some m := hT
      rw [h1] at hT
      cases hT
      have := h.box.symm.trans hh
      simp at this)
  exact ⟨by simp [World.cell?, hbox], by simp [World.frozen?, hbox]⟩
theorem RfB.used {sv : Value} {v : Nat → Value} {cx : Nat} (h : RfB w O m qx c R sv v cx) (u' : Int) : RfB (w.setCell ⟨m, 7, none⟩ (.int .i64 u')) O m qx c { R with u := u' } sv v cx := by
  have tm : 181 ≠ 3 := by decide
  have htt : Touch (fun b => b = m) w (w.setCell ⟨m, 7, none⟩ (.int .i64 u')) := touch_set _ _ _ _
  have nx : qx ≠ m := by
    rintro rfl
    obtain ⟨cur', hx, _⟩ := h.xs
    have := hx.symm.trans h.box
    simp at this
  refine ⟨?_, h.xs.other nx _ _, owns_touch h.row htt (fun b hb e => ?_), fun k hk => (h.ff k hk).set h.box tm _ _, fun t ht => (h.fs t ht).set h.box tm _ _, h.om, h.ox, h.os, h.of, h.og, fun b hb => by simpa [World.setCell] using h.lt b hb⟩
  · rw [set_cells 7 (.int .i64 u') h.box]
    rfl
  · subst e
    obtain ⟨_, ⟨h1, _⟩ | ⟨g, cap, cur, h1, _, hh, _⟩⟩ := h.row
    · rw [h1] at hb; cases hb
    · rw [h1] at hb
      cases hb
      have := h.box.symm.trans hh
      simp at this
/-- While a round goes on: out has grown. -/
structure AsJ (w : World) (O : Nat → Prop) (m qx : Nat) (c : Cf) (R : Rh) (k : Int) (j : Nat) (O' : Nat → Prop) (v3 sv : Value) (v : Nat → Value) (cx : Nat) (w3 : World) : Prop where
  t : Touch O w w3
  s : Sub w O' O
  ow : Ow w3 w.heap.size v3 (newL c.c1 k R.u (j + 1))
  rf : RfB w3 O' m qx c (R.addL (newL c.c1 k R.u j) k) sv v cx
  nd : ∀ b, v3.ownBlock = some b → ¬ O' b
variable {wr W2 w3 w4 : World} {v3 v4 u sv : Value} {v : Nat → Value} {cx j : Nat} {k P : Int} {O' : Nat → Prop}
theorem as_out {o : Obj} (t1 : Touch O w wr) (t2 : Sub w O' O) (hT2 : Touch nob wr W2) (ow : Ow W2 w.heap.size u (newL c.c1 k R.u j)) (hb : RfB W2 O' m qx c (R.addL (newL c.c1 k R.u j) k) sv v cx) (nd : ∀ b, u.ownBlock = some b → ¬ O' b)
    (hown : w3.ownsRow w.heap.size 3 1 v3 ((newL c.c1 k R.u j).length + 1) ((newL c.c1 k R.u j).map (.int .i64) ++ [.int .i64 P])) (hgrow : (W2.alloc o).grownBy w3 u.ownBlock) (hat : v3.ownBlock = u.ownBlock ∨ v3.ownBlock = some (W2.alloc o).heap.size) (hP : plA c.c1 k R.u j 0 = P) : AsJ w O m qx c R k j O' v3 sv v cx w3 := by
  have T3 : Touch (fun b => u.ownBlock = some b) W2 w3 := Touch.grown ((Touch.refl _ _).alloc _) hgrow (fun b hb => .inl hb)
  have T2 : Touch O w W2 := t1.trans hT2.hnob
  refine ⟨T2.step T3 (fun b hb => .inr (World.ownsRow.lt ow b hb).1), t2, ?_, hb.touch T3 (fun b hO hb => nd b hb hO), fun b hb => ?_⟩
  · unfold Ow
    rw [newL_succ, hP, List.length_append, List.map_append]
    exact hown
  · rcases hat with h | h
    · exact nd b (by rw [← h]; exact hb)
    · rw [h] at hb
      cases hb
      intro hO
      have h1 := (‹RfB W2 O' m qx c (R.addL (newL c.c1 k R.u j) k) sv v cx›).lt _ hO
      rw [World.size_alloc] at h1
      omega
theorem as_slot {o : Obj} (h : AsJ w O m qx c R k j O' v3 sv v cx w3) (hown : w4.ownsRow 0 186 6 v4 ((R.addL (newL c.c1 k R.u j) k).L.length + 1) (rowsL (R.addL (newL c.c1 k R.u j) k).L ++ [.int .i64 P, .int .i64 k, .int .i64 0, .int .i64 0, .bool false, .slice none 0 0]))
    (hgrow : (w3.alloc o).grownBy w4 sv.ownBlock) (hat : v4.ownBlock = sv.ownBlock ∨ v4.ownBlock = some (w3.alloc o).heap.size) (hP : plA c.c1 k R.u j 0 = P) : AsI w O m qx c R k (j + 1) v3 (w4.setCell ⟨m, 8, none⟩ v4) := by
  obtain ⟨t, s, ow, rf, nd⟩ := h
  have ta : Touch nob w3 (w3.alloc o) := (Touch.refl _ _).alloc _
  obtain ⟨O2, t2, s2, r2⟩ := (rf.touch ta (fun _ _ x => x)).app (s := newS P k) ⟨rfl, rfl⟩ hown hgrow (fun b hb => by
    rcases hat with h | h
    · exact .inl (by rw [← h]; exact hb)
    · rw [h] at hb
      cases hb
      exact .inr (Nat.le_refl _))
  have ta' : Touch O w (w3.alloc o) := t.trans ta.hnob
  refine ⟨O2, ta'.step t2 s, fun b hb => ?_, ?_, ⟨v4, v, cx, ?_⟩, fun b hb hO => ?_⟩
  · rcases s2 b hb with h | h
    · exact s b h
    · exact .inr (Nat.le_trans ta'.size h)
  · exact (ow.touch ta (fun _ _ x => x)).touch t2 (fun b hb hO => nd b hb hO)
  · rw [newL_succ, hP, ← addL_snoc]
    exact r2
  · rcases s2 b hO with h | h
    · exact nd b hb h
    · have := (World.ownsRow.lt ow b hb).2
      rw [World.size_alloc] at h
      omega
set_option maxRecDepth 10000 in
set_option maxHeartbeats 4000000 in
theorem rf_Assign_ok (k N : Nat) (hk : isCls (k : Int) = true) (h : RfAt w O m qx c R) (hu : R.u ≠ c.c0) (hl : R.L.length + N ≤ 4096) (hN : perBlock c.c1 k = N) (hA : ∀ j : Nat, j < N → ifB (plOk c.c0 c.c1 c.c2 c.c3 c.c4 c.c5 c.c6 k R.u j 0) (plA c.c1 k R.u j 0) = plA c.c1 k R.u j 0) (hu1 : 0 ≤ R.u ∧ R.u ≤ 4096) :
    Calls Tryz.prog 128 #[.pointer (some ⟨m, 0, none⟩), .int .i64 k] w fun x w' => ∃ v' O', x = .returned (.tuple #[v', .int .i64 0]) ∧ Touch O w w' ∧ Sub w O' O ∧ Ow w' w.heap.size v' (newL c.c1 k R.u N) ∧ RfAt w' O' m qx c { R.addL (newL c.c1 k R.u N) k with u := R.u + 1 } ∧ ∀ b, v'.ownBlock = some b → ¬ O' b := by
  obtain ⟨i0, hi, hz0, hz1, hz2⟩ := info_parts info_int2
  obtain ⟨i1, hinf, hy0, hy1, hy2⟩ := info_parts info_slot
  have HK := Lib.hid hk
  have H := Lib.hid h
  have HA := Lib.hid (And.intro hN hA)
  obtain ⟨U, hU⟩ : ∃ U, R.u = U := ⟨_, rfl⟩
  obtain ⟨sv, v, cx, hb⟩ := h
  obtain ⟨d7, -⟩ := hb.boxes
  have d0 : w.cell? ⟨m, 0, none⟩ = some (.int .i64 c.c0) := by simp [World.cell?, hb.box]
  rw [hU] at d7 hu hu1
  have hub : (U == c.c0) = false := by simpa using hu
  clear hk hb hN hA
  go_enter Tryz.func128, Tryz.ntmps128
  go_wp2_with (go_at_call 156; fail)
  refine (ref03_Is k w).mono ?_
  rintro e w2 ⟨rfl, rfl⟩
  rw [HK.out]
  go_wp2_with fail
  go_quiet (fail)
  go_wp2_with fail
  generalize hw : World.drewN w _ = w3
  have ht3 : Touch nob w w3 := by rw [← hw]; exact (Touch.refl nob w).drewN _
  have HT := Lib.hid ht3
  clear hw ht3 d7 d0 hub
  go_loopw [6, 7] (fun v i wr => ∃ j : Nat, j ≤ N ∧ i = .int .i64 j ∧ Hid (AsI w O m qx c R k j v wr)) (fun _ i _ => N - (intOf i).toNat)
  case atStart =>
    refine ⟨0, Nat.zero_le _, rfl, O, HT.out.hnob, fun b hb => .inl hb, World.ownsRow_nil _ _ _ _, ?_, fun b hb => by cases hb⟩
    have : R.addL (newL c.c1 k R.u 0) k = R := by unfold Rh.addL newL; simp
    rw [this]
    exact H.out.old HT.out
  case round =>
    obtain ⟨j, hj, rfl, HR⟩ := hrel
    obtain ⟨O', t1, t2, ow, rf, nd⟩ := HR.out
    obtain ⟨sv, v', cx, hb⟩ := rf
    have hbx := hb.box
    obtain ⟨d7, d8, -, -, -, -, -, fz⟩ := hb.boxes
    have f8 := fz 8
    have f7 := fz 7
    have d0 : wr.cell? ⟨m, 0, none⟩ = some (.int .i64 c.c0) := by simp [World.cell?, hbx]
    have d1 : wr.cell? ⟨m, 1, none⟩ = some (.int .i64 c.c1) := by simp [World.cell?, hbx]
    have d2 : wr.cell? ⟨m, 2, none⟩ = some (.int .i64 c.c2) := by simp [World.cell?, hbx]
    have d3 : wr.cell? ⟨m, 3, none⟩ = some (.int .i64 c.c3) := by simp [World.cell?, hbx]
    have d4 : wr.cell? ⟨m, 4, none⟩ = some (.int .i64 c.c4) := by simp [World.cell?, hbx]
    have d5 : wr.cell? ⟨m, 5, none⟩ = some (.int .i64 c.c5) := by simp [World.cell?, hbx]
    have d6 : wr.cell? ⟨m, 6, none⟩ = some (.int .i64 c.c6) := by simp [World.cell?, hbx]
    change wr.cell? _ = some (.int .i64 R.u) at d7
    rw [hU] at d7
    have HQ := Lib.hid (And.intro t1 (And.intro t2 (And.intro ow (And.intro hb nd))))
    clear t1 t2 ow hb nd hbx fz HR
    go_wp2_with (go_at_call 157; fail)
    refine (ref03_Per c.c1 k wr).mono ?_
    rintro e w6 ⟨rfl, rfl⟩
    rw [HA.out.1]
    by_cases hjN : j < N
    · have hbj : (j : Int) < (N : Int) := by omega
      have hA2 := HA.out.2 j hjN
      rw [hU] at hA2
      have d9 := fun d os => Calls.regrown_of (ref04_Of c.c0 c.c1 c.c2 c.c3 c.c4 c.c5 c.c6 k U j 0 (grow (redrawn wr d) os))
      rw [hA2] at d9
      obtain ⟨P, hP⟩ : ∃ P, plA c.c1 k U j 0 = P := ⟨_, rfl⟩
      rw [hP] at d9
      have HP := Lib.hid hP
      clear hP hA2
      go_wp2_with fail
      have k0 := cell_regrown d0
      have k1 := cell_regrown d1
      have k2 := cell_regrown d2
      have k3 := cell_regrown d3
      have k4 := cell_regrown d4
      have k5 := cell_regrown d5
      have k6 := cell_regrown d6
      have k7 := cell_regrown d7
      clear d0 d1 d2 d3 d4 d5 d6 d7 d8 f7 f8
      refine wp_region_quiet_below (by kernel_rfl) (by kernel_rfl) ?_
      repeat (go_big_quiet_step (first | (go_at_call 158; exact d9 _ _)))
      refine wpQuiet_nil ?_
      intro W2 hw'
      obtain ⟨⟨dq, osq⟩, hw''⟩ := hw'
      simp only at hw''
      have hT2 : Touch nob wr W2 := by rw [hw'']; exact Touch.of_below (below_regrown wr dq osq)
      have HT2 := Lib.hid hT2
      have HO2 := Lib.hid (HQ.out.2.2.1.touch hT2 (fun _ _ x => x))
      have HB2 := Lib.hid (HQ.out.2.2.2.1.touch hT2 (fun _ _ x => x))
      clear hw'' hT2 d9 k0 k1 k2 k3 k4 k5 k6 k7
      have HS2 : Hid (w.heap.size ≤ W2.heap.size) := (HQ.out.1.trans HT2.out.hnob).size
      have HM : Hid ((newL c.c1 k R.u j).length = j ∧ j ≤ 4096 ∧ R.L.length + j ≤ 4095) := ⟨newL_len _ _ _ _, by omega, by omega⟩
      have HU := Lib.hid (And.intro hU HP.out)
      clear hu hu1 hU
      go_wp2_with (first
        | (at_builtin; refine wpList_append_own_at _ rfl _ _ 28 rfl w.heap.size 3 i0 (.int .i64 0) 1 8 Tryz.underlying28 hi hz0 hz1 hz2 rfl (by decide) _ _ _ rfl (HO2.out.alloc _) ⟨W2.heap.size, 0, none⟩ 1 1 [.int .i64 P] rfl rfl (World.news_of_block (World.alloc_heap_new _ _)) (ints_oneCell _ [P]) (by have := HM.out; unfold maxLen; omega) (by have := HM.out; omega) (by have := HS2.out; simp; omega) ?_; intro v3 w3 hown hgrow _ hat; have HW3 := Lib.hid (as_out HQ.out.1 HQ.out.2.1 HT2.out HO2.out HB2.out HQ.out.2.2.2.2 hown hgrow hat (by rw [HU.out.1]; exact HU.out.2)); clear hown hgrow hat; obtain ⟨d7, d8, -, -, -, -, -, fz⟩ := HW3.out.rf.boxes; clear d7 fz)
        | (at_builtin; go_loud (refine wpList_append_own_at _ rfl _ _ 178 rfl 0 186 i1 _ 6 64 Tryz.underlying178 hinf hy0 hy1 hy2 rfl (by decide) _ _ _ rfl (HW3.out.rf.row.alloc _) ⟨w3.heap.size, 0, none⟩ 1 1 [.int .i64 P, .int .i64 k, .int .i64 0, .int .i64 0, .bool false, .slice none 0 0] rfl rfl (World.news_of_block (World.alloc_heap_new _ _)) (newS_one _ _) (by have := HM.out; unfold maxLen Rh.addL; simp; omega) (by have := HM.out; unfold Rh.addL; simp; omega) (Nat.zero_le _) ?_); intro v4 w4 hown hgrow _ hat; obtain ⟨av4, nv4, cv4, rfl⟩ := owns_slice hown; have HW4 := Lib.hid (as_slot HW3.out hown hgrow hat (by rw [HU.out.1]; exact HU.out.2)); obtain ⟨d9, f9⟩ := (HW3.out.rf.touch ((Touch.refl nob _).alloc _) (fun _ _ x => x)).app_box hgrow; clear hown hgrow hat))
      go_roundw
      case rel => exact ⟨j + 1, by omega, by go_num, HW4.out⟩
      case measure => simp [intOf]; omega
    · have hjN' : ¬ (j : Int) < (N : Int) := by omega
      have HJ : Hid (j = N) := by show _ = _; omega
      have HU := Lib.hid hU
      clear hu hjN hj d0 d1 d2 d3 d4 d5 d6 d8 f8 HA
      go_wp2_with fail
      go_ret2
      obtain ⟨t1, t2, ow, rf, nd⟩ := HQ.out
      have e := HJ.out
      subst e
      have tu : Touch (fun b => b = m) wr (wr.setCell ⟨m, 7, none⟩ (.int .i64 (U + 1))) := touch_set _ _ _ _
      refine ⟨_, O', rfl, t1.step tu (fun b hb => t2 b (by rw [hb]; exact rf.om)), t2, ow.touch tu (fun b hb hm => nd b hb (by rw [hm]; exact rf.om)), ⟨sv, v', cx, ?_⟩, nd⟩
      have hf := rf.used (U + 1)
      rw [HU.out] at hf ⊢
      exact hf
end Go.Proofs.YtnobempbcdkoaaaGreatDoor
