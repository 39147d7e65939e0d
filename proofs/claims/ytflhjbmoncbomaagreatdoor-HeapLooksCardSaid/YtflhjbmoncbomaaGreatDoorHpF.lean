/- The heap's slots in hand, its table, its config, walked. Conditions: the tables of limits and of sizes read as laid. -/
import Derived.Test.YtflhjbmoncbomaaGreatDoorHpD
import Derived.Test.YtflhjbmoncbomaaGreatDoorInts
namespace Go.Proofs.YtflhjbmoncbomaaGreatDoor
open Go.RowKit Go.Shelf
attribute [local go_sem] Oper.semAt_some

variable {W w w' : World} {A : HA} {c : Cf} {S : HS} {H : Nat → List Nat}
theorem hp_Table (h : HpI W w A c S H) :
    Calls Tryz.prog 47 #[.pointer (some ⟨A.h, 0, none⟩)] w fun e w' => ∃ p' g cap', e = .returned (.pointer (some ⟨p', 0, none⟩)) ∧ Touch nob w w' ∧ w.heap.size ≤ p' ∧ w.heap.size ≤ g ∧ BlkAt w' p' g cap' A.L.n c S.s.ks := by
  obtain ⟨cx, -, d1, -, -, -, -, -⟩ := h.at'.cells
  obtain ⟨ct, hb⟩ := h.at'.ls.tb
  have HC := Lib.hid (blk_Copy hb)
  clear h hb
  go_enter Tryz.func47, Tryz.ntmps47
  go_wp2_with (go_at_call 98; fail)
  refine HC.out.mono ?_
  rintro e w1 ⟨p', g, cap', rfl, h1⟩
  have H1 := Lib.hid h1
  clear h1
  go_wp2
  go_ret
  exact ⟨p', g, cap', rfl, H1.out⟩
theorem hp_Config (h : HpI W w A c S H) :
    Calls Tryz.prog 46 #[.pointer (some ⟨A.h, 0, none⟩)] w fun e w' => e = .returned c.V ∧ Touch nob w w' := by
  obtain ⟨W1, hW1⟩ : ∃ W1, W1 = w.alloc (Obj.cells (CfgRow 0 0 0 0 0 0 0) 23) := ⟨_, rfl⟩
  have hT : Touch nob w W1 := by rw [hW1]; (repeat (first | with_reducible exact Touch.refl _ _ | with_reducible assumption | with_reducible apply Touch.alloc | with_reducible apply Touch.drewN | with_reducible apply Touch.drew | with_reducible refine Touch.setCell ?_ (.inr (by first | omega | (simp; done) | (simp; omega))) _))
  have hbx : W1.heap[w.heap.size]? = some (Obj.cells (CfgRow 0 0 0 0 0 0 0) 23) := by rw [hW1]; exact World.alloc_heap_new w _
  obtain ⟨b0, hb0⟩ : ∃ b, b = w.heap.size := ⟨_, rfl⟩
  rw [← hb0] at hbx
  obtain ⟨cx, -, d1, -, -, -, -, -⟩ := (h.old hT).at'.cells
  obtain ⟨ct, hb⟩ := (h.old hT).at'.ls.tb
  have HC := Lib.hid (blk_Config hb)
  have HT1 := Lib.hid (And.intro hT (And.intro hbx (show w.heap.size ≤ b0 by omega)))
  clear h hb hT hbx
  rw [hW1] at d1
  go_enter Tryz.func46, Tryz.ntmps46
  go_wp2_with (go_at_call 97; fail)
  rw [← hW1, ← hb0]
  clear hW1 hb0 d1
  refine HC.out.mono ?_
  rintro e w1 ⟨rfl, hT1⟩
  have hb1 := blk_touch HT1.out.2.1 hT1 (fun x => x)
  obtain ⟨k0, k1, k2, k3, k4, k5, k6⟩ := cfg_box hb1 (Touch.refl _ _)
  have f0 : ∀ j, w1.frozen? ⟨b0, j, none⟩ = false := fun j => by simp [World.frozen?, hb1]
  have g0 := f0 0; have g1 := f0 1; have g2 := f0 2; have g3 := f0 3; have g4 := f0 4; have g5 := f0 5; have g6 := f0 6
  have H1 := Lib.hid (And.intro hT1 hb1)
  clear hT1 f0 hb1
  go_wp2
  refine bodyPost_ret (v := c.V) ?_ rfl ⟨rfl, ?_⟩
  · have hb2 : (set7 w1 b0 (.int .i64 c.c0) (.int .i64 c.c1) (.int .i64 c.c2) (.int .i64 c.c3) (.int .i64 c.c4) (.int .i64 c.c5) (.int .i64 c.c6)).heap[b0]? = some (Obj.cells (CfgRow c.c0 c.c1 c.c2 c.c3 c.c4 c.c5 c.c6) 23) := set7_at _ _ _ _ _ _ _ _ H1.out.2
    obtain ⟨y0, y1, y2, y3, y4, y5, y6⟩ := cfg_box hb2 (Touch.refl _ _)
    simp [results, Tryz.results46, go_sem, y0, y1, y2, y3, y4, y5, y6]
  · exact set7_touch _ _ _ _ _ _ _ HT1.out.2.2 (HT1.out.1.trans H1.out.1)
/-- Those of the slots that are in hand. -/
def HS.hnds (S : HS) (c : Cf) (n : Nat) : List Int := (allSl c S.s.ks n).filter fun a => S.hand c a
/-- Between two rounds. -/
structure HdI (c : Cf) (S : HS) (W2 : World) (n1 : Nat) (pre : List Int) (O : Nat → Prop) (A' : World) : Prop where
  t : Touch (fun k => k = n1) W2 A'
  row : ∃ v, LzRow W2.heap.size n1 (pre.filter fun a => S.hand c a) v A' ∧ ∀ j, O j ↔ (j = n1 ∨ v.ownBlock = some j)
set_option maxRecDepth 20000 in
set_option maxHeartbeats 2000000 in
theorem hp_Hands (h : HpI W w A c S H) :
    Calls Tryz.prog 50 #[.pointer (some ⟨A.h, 0, none⟩)] w fun e w' => ∃ v, e = .returned v ∧ Touch nob w w' ∧ Ow w' w.heap.size v (S.hnds c A.L.n) := by
  refine (callsIn_wide (n := 0)).1 (callsIn_of_wp_marks Tryz.func50 rfl trivial ?_ rfl)
  simp only [Tryz.ntmps50, List.size_toArray, List.length_cons, List.length_nil, Nat.reduceAdd, Nat.reduceSub, Array.replicate_succ, Array.replicate_zero, List.push_toArray, List.append_toArray, List.nil_append, List.cons_append]
  obtain ⟨W0, hW0⟩ : ∃ W0, W0 = (w.alloc (Obj.cells #[.pointer (some ⟨A.h, 0, none⟩)] 28)).alloc (Obj.cells #[.slice none 0 0] 46) := ⟨_, rfl⟩
  have hT0 : Touch nob w W0 := by rw [hW0]; (repeat (first | with_reducible exact Touch.refl _ _ | with_reducible assumption | with_reducible apply Touch.alloc | with_reducible apply Touch.drewN | with_reducible apply Touch.drew | with_reducible refine Touch.setCell ?_ (.inr (by first | omega | (simp; done) | (simp; omega))) _))
  have hB0 : W0.heap[w.heap.size]? = some (Obj.cells #[.pointer (some ⟨A.h, 0, none⟩)] 28) := by rw [hW0]; exact alloc2_0 w _ _
  have hB1 : W0.heap[w.heap.size + 1]? = some (Obj.cells #[.slice none 0 0] 46) := by rw [hW0]; exact alloc2_1 w _ _
  have hs0 : W0.heap.size = w.heap.size + 2 := by rw [hW0]; simp
  obtain ⟨n0, hn0⟩ : ∃ n, n = w.heap.size := ⟨_, rfl⟩
  rw [← hn0] at hB0 hB1
  obtain ⟨cx, -, d1, -, -, -, -, -⟩ := (h.old hT0).at'.cells
  rw [hW0] at d1
  have HH := Lib.hid h
  have H0 := Lib.hid (And.intro hT0 (And.intro (h.old hT0) (And.intro hB0 (And.intro hB1 (And.intro hn0 hs0)))))
  clear h hT0 hB0 hB1 hs0
  gi_wp2_with fail
  rw [← hW0, ← hn0]
  clear hW0 hn0 d1
  refine ⟨trivial, rfl, ?_⟩
  refine (callsIn_wide.2 (blk_All W0 _)).mono ?_
  rintro e W2 ⟨b, rfl, hT2, hb2, hbx⟩
  obtain ⟨ct, hbk⟩ := (H0.out.2.1.old hT2).at'.ls.tb
  have hit := ball1_iter b hbk (H0.out.2.1.old hT2).lay hbx
  have H2 := Lib.hid (And.intro (H0.out.1.trans hT2) (And.intro (H0.out.2.1.old hT2) (And.intro (blk_touch H0.out.2.2.1 hT2 (fun x => x)) (And.intro (blk_touch H0.out.2.2.2.1 hT2 (fun x => x)) (And.intro hit (show n0 + 2 ≤ W2.heap.size by have := H0.out.2.2.2.2; have := hT2.size; omega))))))
  have HN : Hid (n0 = w.heap.size ∧ (∀ x ∈ A.all, x < n0) ∧ W.heap.size ≤ n0) := by
    have h1 := H0.out.2.2.2.2.1
    exact ⟨h1, fun x hx => by rw [h1]; exact HH.out.at'.lt x hx, by rw [h1]; exact HH.out.at'.base.size⟩
  clear hT2 hb2 hbx hbk hit H0
  obtain ⟨i0, hi, hz0, hz1, hz2⟩ := info_parts info_int2
  gi_wp2_with fail
  have hWs := H2.out.2.2.2.2.2
  refine rf_law1 ?a1 (O₀ := fun k => k = n0 + 1) rfl (enters_of Tryz.func137 (by kernel_rfl) rfl) H2.out.2.2.2.2.1 (fun _ => rfl) abD_T abD_M abD_O (fun _ _ _ _ _ _ _ => trivial)
    (HdI c S W2 (n0 + 1)) (fun _ _ _ _ => False)
    (fun k hk => by
      have h1 := H2.out.2.1.lay.lt
      have h2 := HH.out.lay.lt
      have h3 := HN.out.1
      rcases hk with rfl | rfl
      · exact ⟨h1.1, by omega⟩
      · exact ⟨h1.2, by omega⟩)
    (fun k hk => by omega)
    (fun pre O A B ⟨h1, v, h4, h5⟩ hab => ⟨h1.step hab (fun i hi => .inr hi.1), v, h4.keep (fun k hk hh => hab.block k hk (fun x => x.2 ((h5 k).2 hh))), h5⟩)
    (fun _ _ _ _ _ h _ => h)
    ⟨Touch.refl _ _, .slice none 0 0, ⟨H2.out.2.2.2.1, World.ownsRow_nil _ _ _ _⟩, fun j => by simp [Value.ownBlock]⟩ ?assign ?body ?done ?stop
  case assign =>
    intro l x A K hK
    gi_wp2
    exact hK
  case body =>
    rintro l pre x O A' ⟨i1, v, i4, i5⟩ hpre
    obtain ⟨ao, capv, rfl⟩ := own_shape i4.2
    have hI : HpI W A' A c S H := H2.out.2.1.touch (H2.out.2.1.at'.base.step i1 (fun i hi => .inr (by have := HN.out.2.2; omega))) i1 (fun b hb e => by have := HN.out.2.1 b hb; omega)
    have hha := heap_hand x hI.at' hI.laid
    obtain ⟨K, hK⟩ : ∃ K, S.kls c x = K := ⟨_, rfl⟩
    rw [hK] at hha
    have c0 := (i1.cell (o := 0) (blk_lt H2.out.2.2.1) (by omega)).trans (one_cell H2.out.2.2.1)
    have hlen : (pre.filter fun a => S.hand c a).length ≤ 524288 := by
      have h1 := hpre.length_le
      have h2 := allSl_le (c := c) (ks := S.s.ks) A.L.n
      have h3 := List.length_filter_le (fun a => S.hand c a) pre
      have h4 : A.L.n ≤ 4096 := by
        obtain ⟨ct, hb⟩ := HH.out.at'.ls.tb
        exact hb.n4.2
      rw [List.length_append] at h1
      omega
    obtain ⟨n, hn⟩ : ∃ n, (pre.filter fun a => S.hand c a).length = n := ⟨_, rfl⟩
    have c1 := one_cell i4.1
    have f1 := one_free i4.1
    rw [hn] at c1 hlen
    have HB := Lib.hid (And.intro i1 (And.intro i4 (And.intro i5 hn)))
    have HA := Lib.hid hha
    clear i1 i4 i5 hn hha hK hI hpre
    cases hx : S.hand c x
    · rw [hx] at HA
      have HF : Hid ((pre ++ [x]).filter (fun a => S.hand c a) = pre.filter fun a => S.hand c a) := by show _ = _; rw [List.filter_append]; simp [hx]
      clear hx
      gi_wp2_with fail
      refine ⟨trivial, rfl, ?_⟩
      refine (CallsIn.inRound l (callsIn_wide.2 HA.out)).mono ?_
      rintro e W3 ⟨rfl, hT3⟩
      have H3 := Lib.hid hT3
      clear hT3 c0 c1 f1
      gi_wp2_with fail
      obtain ⟨i1, i4, i5, hn⟩ := HB.out
      refine ⟨O, H3.out.mono (fun _ _ x => x.elim), fun _ h => .inl h, trivial, i1.trans (H3.out.mono (fun _ _ x => x.elim)), _, ?_, i5⟩
      rw [HF.out, hn]
      rw [← hn]
      exact i4.keep (fun k hk _ => H3.out.block k hk (fun x => x))
    · rw [hx] at HA
      have HF : Hid ((pre ++ [x]).filter (fun a => S.hand c a) = (pre.filter fun a => S.hand c a) ++ [x]) := by show _ = _; rw [List.filter_append]; simp [hx]
      clear hx
      gi_wp2_with fail
      refine ⟨trivial, rfl, ?_⟩
      refine (CallsIn.inRound l (callsIn_wide.2 HA.out)).mono ?_
      rintro e W3 ⟨rfl, hT3⟩
      have hrow3 := HB.out.2.1.keep (A' := W3) (fun k hk _ => hT3.block k hk (fun x => x))
      have c0' := (hT3.cell (cell_lt c0) (fun x => x)).trans c0
      have c1' := one_cell hrow3.1
      have f1' := one_free hrow3.1
      have hn := HB.out.2.2.2
      rw [hn] at c1'
      have hown := hrow3.2
      rw [hn] at hown
      have HO := Lib.hid hown
      have HA3 : Hid (W2.heap.size ≤ W3.heap.size) := Nat.le_trans HB.out.1.size hT3.size
      have HC1 : Hid ((W3.alloc (Obj.cells #[.int .i64 x] 3)).heap[n0 + 1]? = some (Obj.cells #[.slice ao n capv] 46)) := by
        have := hrow3.1
        rw [hn] at this
        exact (Below.heap_alloc _ _ _ (blk_lt this)).trans this
      have HC2 : Hid ((Value.slice ao n capv).ownBlock ≠ some (n0 + 1)) := fun e => by
        have := (World.ownsRow.lt hown (n0 + 1) e).1
        omega
      have HL := Lib.hid hlen
      have H3 := Lib.hid hT3
      have HWs := Lib.hid hWs
      clear hrow3 hn hown hT3 c0 c1 f1 hlen hWs
      gi_wp2_with (gi_at_builtin; go_loud (refine wpListIn_append_own_at _ rfl _ _ 46 rfl W2.heap.size 3 i0 (.int .i64 0) 1 8 Tryz.underlying46 hi hz0 hz1 hz2 rfl (by decide) _ n _ rfl (HO.out.alloc _) ⟨W3.heap.size, 0, none⟩ 1 1 [.int .i64 x] rfl rfl (cell_one_new _ _ _) (by simp [Value.oneCell']) (by have := HL.out; unfold maxLen; omega) (by have := HL.out; omega) (by have := HA3.out; simp; omega) ?_; intro v' w1 hown' hgrow _ hat; have HX := Lib.hid (And.intro hown' (And.intro hgrow hat)); have b1' := grown_box hgrow (HC1.out) HC2.out; have d1' := one_cell b1'; have g1' := one_free b1'; obtain ⟨g', cap', rfl⟩ := ownsRow_succ hown'; clear hown' hgrow hat b1' c1' f1'))
      obtain ⟨hown', hgrow, hat⟩ := HX.out
      have hat : some g' = (Value.slice ao n capv).ownBlock ∨ some g' = some (W3.alloc (Obj.cells #[.int .i64 x] 3)).heap.size := hat
      obtain ⟨i1, i4, i5, hn⟩ := HB.out
      rw [hn] at i5
      have hb1 := grown_box hgrow HC1.out HC2.out
      have hA0 := HA3.out
      have hW0 := HWs.out
      have hA3 : A'.heap.size ≤ W3.heap.size := H3.out.size
      have hglt : g' < (w1.setCell ⟨n0 + 1, 0, none⟩ (.slice (some ⟨g', 0, none⟩) (n + 1) cap')).heap.size := by
        have := (World.ownsRow.lt hown' g' rfl).2
        simpa [World.setCell] using this
      have hsub : ∀ j, (j = n0 + 1 ∨ j = g') → O j ∨ (A'.heap.size ≤ j ∧ j < (w1.setCell ⟨n0 + 1, 0, none⟩ (.slice (some ⟨g', 0, none⟩) (n + 1) cap')).heap.size) := by
        rintro j (rfl | hj)
        · exact .inl ((i5 _).2 (.inl rfl))
        · rw [hj]
          rcases hat with h | h
          · exact .inl ((i5 _).2 (.inr h.symm))
          · right
            have : g' = (W3.alloc (Obj.cells #[.int .i64 x] 3)).heap.size := Option.some.inj h
            rw [World.size_alloc] at this
            exact ⟨by omega, hglt⟩
      have hgn : g' ≠ n0 + 1 := by
        have := (World.ownsRow.lt hown' g' rfl).1
        omega
      have hTA : Touch O A' (w1.setCell ⟨n0 + 1, 0, none⟩ (.slice (some ⟨g', 0, none⟩) (n + 1) cap')) :=
        (Touch.grown (Touch.alloc (H3.out.mono (fun _ _ x => x.elim)) _) hgrow (fun k hk => .inl ((i5 k).2 (.inr hk)))).setCell (.inl ((i5 _).2 (.inl rfl))) _
      refine ⟨fun j => j = n0 + 1 ∨ j = g', hTA, hsub, trivial, ?_, .slice (some ⟨g', 0, none⟩) (n + 1) cap', ⟨?_, ?_⟩, fun j => by simp [Value.ownBlock, eq_comm]⟩
      · exact i1.step hTA (fun j hj => by
          rcases (i5 j).1 hj with h | h
          · exact .inl h
          · exact .inr (World.ownsRow.lt HO.out j h).1)
      · exact (set_one _ hb1).trans (by simp)
      · have h2 := hown'
        rw [HF.out, show ((pre.filter fun a => S.hand c a) ++ [x]).length = n + 1 by simp [hn], List.map_append]
        exact owns_at h2 (fun k hk _ => by cases hk; exact set_other _ hgn)
  case done =>
    rintro D O A' hD hO ⟨i1, v, i4, i5⟩ hK
    obtain ⟨ao, capv, rfl⟩ := own_shape i4.2
    have c1 := one_cell i4.1
    have HB := Lib.hid (And.intro i1 (And.intro i4.2 (And.intro hK (And.intro hD (fun h => hO ((i5 D).2 (.inr h)))))))
    clear i1 i4 i5 hK hD hO
    gi_wp2
    have hwn := HN.out.1
    have hwW := H2.out.1.size
    obtain ⟨i1, i4, hK, hD, hO⟩ := HB.out
    refine ⟨by simp, .inl ⟨_, _, rfl, run_takeDeferred hK, ?_⟩⟩
    refine ⟨.slice ao (S.hnds c A.L.n).length capv, by simp [results, Tryz.f50, go_sem, HS.hnds], _, rfl, ?_, ?_⟩
    · exact (H2.out.1.step i1 (fun i hi => .inr (by omega))).putObj (.inr (by omega)) _
    · have h1 : Ow A' W2.heap.size (.slice ao (S.hnds c A.L.n).length capv) (S.hnds c A.L.n) := i4
      exact (h1.touch (T := fun k => k = D) ((Touch.refl (fun k => k = D) A').putObj (.inl rfl) _) (fun b hb e => hO (by rw [← e]; exact hb))).base (by omega)
  case stop =>
    rintro D c pre O A hD hO hpre h hK
    exact h.elim
end Go.Proofs.YtflhjbmoncbomaaGreatDoor
