/- The addresses of a block's slots, walked. Conditions: the tables of limits and of sizes read as laid. -/
import Derived.Test.YtflhjbmoncbomaaGreatDoorFind
import Derived.Test.YtflhjbmoncbomaaGreatDoorStarts
import Derived.Test.YtflhjbmoncbomaaGreatDoorRf
namespace Go.Proofs.YtflhjbmoncbomaaGreatDoor
open Go.RowKit Go.Shelf Go.Sort
attribute [local go_sem] Oper.semAt_some

/-- A slot's address, or 0. -/
def slA (c0 c1 c2 c3 c4 c5 c6 k b : Int) (i : Nat) : Int := ifB (plOk c0 c1 c2 c3 c4 c5 c6 k b i 0) (plA c1 k b i 0)
def slL (c0 c1 c2 c3 c4 c5 c6 k b : Int) (l : List Nat) : List Int := (l.map (slA c0 c1 c2 c3 c4 c5 c6 k b)).filter fun a => decide (0 < a)
theorem slL_snoc {c0 c1 c2 c3 c4 c5 c6 k b : Int} {l : List Nat} {i : Nat} : slL c0 c1 c2 c3 c4 c5 c6 k b (l ++ [i]) = slL c0 c1 c2 c3 c4 c5 c6 k b l ++ (if 0 < slA c0 c1 c2 c3 c4 c5 c6 k b i then [slA c0 c1 c2 c3 c4 c5 c6 k b i] else []) := by
  unfold slL
  rw [List.map_append, List.filter_append]
  by_cases h : 0 < slA c0 c1 c2 c3 c4 c5 c6 k b i
  · rw [if_pos h]; simp [h]
  · rw [if_neg h]; simp [h]
theorem slL_len {c0 c1 c2 c3 c4 c5 c6 k b : Int} {l : List Nat} : (slL c0 c1 c2 c3 c4 c5 c6 k b l).length ≤ l.length := by
  unfold slL
  exact Nat.le_trans (List.length_filter_le _ _) (by simp)

theorem ints_of_ownZ {w : World} {base n : Nat} {v : Value} {xs : List Int} (h : w.ownsRow base 3 1 v n (xs.map (Value.int .i64))) : IntsIn w v xs := by
  have hn := h.1
  rcases h.2 with ⟨rfl, rfl⟩ | ⟨g, cap, cur, rfl, hg, hh, hc, hc2, hs, ht⟩
  · have : xs = [] := by simpa using hn
    subst this
    exact ⟨none, 0, rfl, .inl rfl⟩
  · have hl : xs.length = n := by simpa using hn
    refine ⟨some ⟨g, 0, none⟩, cap, by simp [hl], .inr ⟨g, 0, rfl, by simpa [hl] using hc, fun j hj => ?_⟩⟩
    have h5 : cur.toList[j]? = some (Value.int .i64 (xs.getD j 0)) := by
      have h6 : (cur.toList.take n)[j]? = some (Value.int .i64 (xs.getD j 0)) := by
        rw [show cur.toList.take n = xs.map (Value.int .i64) by simpa using ht, List.getElem?_map, List.getElem?_eq_getElem hj, List.getD_eq_getElem?_getD, List.getElem?_eq_getElem hj]
        rfl
      rwa [List.getElem?_take, if_pos (by omega)] at h6
    simpa [World.cell?, hh] using h5

/-- What stands between the rounds: W the world ahead of the range, n0 the first box. -/
def SlI (W : World) (n0 : Nat) (c0 c1 c2 c3 c4 c5 c6 k b : Int) (pre : List Nat) (O : Nat → Prop) (A : World) : Prop :=
  Touch (fun j => j = n0 + 1 + 1 + 1) W A ∧ ∃ v, A.heap[n0 + 1 + 1 + 1]? = some (Obj.cells #[v] 46) ∧ A.ownsRow W.heap.size 3 1 v (slL c0 c1 c2 c3 c4 c5 c6 k b pre).length ((slL c0 c1 c2 c3 c4 c5 c6 k b pre).map (.int .i64)) ∧ ∀ j, O j ↔ (j = n0 + 1 + 1 + 1 ∨ v.ownBlock = some j)

set_option maxHeartbeats 2000000 in
theorem addr_Slots (c0 c1 c2 c3 c4 c5 c6 k b : Int) (w : World) (hL : Limits w) (hS : Sizes w) (n : Nat) (hn : perBlock c1 k = n) :
    Calls Tryz.prog 117 #[CfgV c0 c1 c2 c3 c4 c5 c6, .int .i64 k, .int .i64 b] w fun e w' => ∃ v, e = .returned v ∧ Touch nob w w' ∧ IntsIn w' v (slL c0 c1 c2 c3 c4 c5 c6 k b (List.range n)) ∧ ∀ g, v.ownBlock = some g → w.heap.size ≤ g := by
  refine (callsIn_wide (n := 0)).1 (callsIn_of_wp_marks Tryz.func117 rfl trivial ?_ rfl)
  simp only [Tryz.ntmps117, List.size_toArray, List.length_cons, List.length_nil, Nat.reduceAdd, Nat.reduceSub, Array.replicate_succ, Array.replicate_zero, List.push_toArray, List.append_toArray, List.nil_append, List.cons_append]
  have hg : 1 < w.heap.size := by
    obtain ⟨o, ho, _⟩ := cells_of_cell hS.1
    exact (Array.getElem?_eq_some_iff.1 ho).1
  have HLS := Lib.hid (fun w' (ht : Touch nob w w') => And.intro (hL.touch (S := nob) ht (fun x => x)) (hS.touch (S := nob) ht (fun x => x)))
  clear hL hS
  have hnf : ∀ (fn : Fn) (a b : Array Value) (w : World), (binOp .eql 155 (.func fn a b) .nilFunc).run Tryz.prog w = .ok (.bool false) w := fun _ _ _ _ => by kernel_rfl
  have hn128 : n ≤ 128 := by
    have := hn
    unfold perBlock at this
    split at this
    · rename_i hh
      simp only [Bool.and_eq_true, wordsOk, decide_eq_true_eq] at hh
      have := (per_bd c1 (clsSize k) (by omega) (by omega) (clsSize_lo hh.1) (clsSize_bd k).2).2.1
      omega
    · omega
  have HN := Lib.hid (And.intro hn hn128)
  clear hn hn128
  gi_wp2_with fail
  obtain ⟨W, hW⟩ : ∃ W, W = ((((w.alloc (Obj.cells (CfgRow c0 c1 c2 c3 c4 c5 c6) 23)).alloc (Obj.cells #[Value.int .i64 k] 3)).alloc (Obj.cells #[Value.int .i64 b] 3)).alloc (Obj.cells #[Value.slice none 0 0] 46)) := ⟨_, rfl⟩
  rw [← hW]
  have hsz : W.heap.size = w.heap.size + 4 := by rw [hW]; simp
  have hT : Touch nob w W := by rw [hW]; (repeat (first | with_reducible exact Touch.refl _ _ | with_reducible assumption | with_reducible apply Touch.alloc | with_reducible apply Touch.drewN | with_reducible apply Touch.drew | with_reducible refine Touch.setCell ?_ (.inr (by first | omega | (simp; done) | (simp; omega))) _))
  have b0 : W.heap[w.heap.size]? = some (Obj.cells (CfgRow c0 c1 c2 c3 c4 c5 c6) 23) := by rw [hW]; simp only [heap_alloc_if, World.size_alloc]; repeat (first | rw [if_pos rfl] | rw [if_pos trivial] | rw [if_neg (by omega)])
  have b1 : W.heap[w.heap.size + 1]? = some (Obj.cells #[Value.int .i64 k] 3) := by rw [hW]; simp only [heap_alloc_if, World.size_alloc]; repeat (first | rw [if_pos rfl] | rw [if_pos trivial] | rw [if_neg (by omega)])
  have b2 : W.heap[w.heap.size + 1 + 1]? = some (Obj.cells #[Value.int .i64 b] 3) := by rw [hW]; simp only [heap_alloc_if, World.size_alloc]; repeat (first | rw [if_pos rfl] | rw [if_pos trivial] | rw [if_neg (by omega)])
  have b3 : W.heap[w.heap.size + 1 + 1 + 1]? = some (Obj.cells #[Value.slice none 0 0] 46) := by rw [hW]; simp only [heap_alloc_if, World.size_alloc]; repeat (first | rw [if_pos rfl] | rw [if_pos trivial] | rw [if_neg (by omega)])
  clear hW
  refine ⟨trivial, rfl, ?_⟩
  refine (callsIn_wide.2 (class_Starts c1 k W)).mono ?_
  rintro e W1 ⟨rfl, hW1⟩
  have hT1 : Touch nob W W1 := by rw [hW1]; (repeat (first | with_reducible exact Touch.refl _ _ | with_reducible assumption | with_reducible apply Touch.alloc | with_reducible apply Touch.drewN | with_reducible apply Touch.drew | with_reducible refine Touch.setCell ?_ (.inr (by first | omega | (simp; done) | (simp; omega))) _))
  have d0 : W1.heap[W.heap.size]? = some (Obj.cells #[Value.int .i64 c1] 3) := by rw [hW1]; exact alloc2_0 W _ _
  have d1 : W1.heap[W.heap.size + 1]? = some (Obj.cells #[Value.int .i64 k] 3) := by rw [hW1]; exact alloc2_1 W _ _
  have hs1 : W1.heap.size = W.heap.size + 2 := by rw [hW1]; simp
  obtain ⟨n0, hn0⟩ : ∃ n, n = w.heap.size := ⟨_, rfl⟩
  obtain ⟨m0, hm0⟩ : ∃ n, n = W.heap.size := ⟨_, rfl⟩
  rw [← hn0] at hsz b0 b1 b2 b3 ⊢
  rw [← hm0] at hsz d0 d1 hs1 ⊢
  have hIt := starts1_iter c1 k m0 (m0 + 1) n HN.out.1 W1 (HLS.out W1 (hT.trans hT1)).2 (by omega) (by omega) (by omega) (one_cell d0) (one_cell d1)
  have H := Lib.hid (And.intro hn0 (And.intro (hT.trans hT1) (And.intro hIt (And.intro (blk_touch b0 hT1 (fun x => x)) (And.intro (blk_touch b1 hT1 (fun x => x)) (And.intro (blk_touch b2 hT1 (fun x => x)) (And.intro (blk_touch b3 hT1 (fun x => x)) (And.intro hsz (And.intro hs1 hg)))))))))
  clear hW1 hT hT1 b0 b1 b2 b3 d0 d1 hs1 hsz hn0 hm0 hIt hg
  gi_wp2_with fail
  obtain ⟨i0, hi, hz0, hz1, hz2⟩ := info_parts info_int2
  refine rf_law1 ?a1 (O₀ := fun j => j = n0 + 1 + 1 + 1) rfl (enters_of Tryz.func151 (by kernel_rfl) rfl) H.out.2.2.1 (fun _ => rfl) abD_T abD_M abD_O (fun _ _ _ _ _ _ _ => trivial)
    (SlI W1 n0 c0 c1 c2 c3 c4 c5 c6 k b) (fun _ _ _ _ => False)
    (fun j hj => by
      obtain ⟨e1, _, _, _, _, _, _, e2, e3, e4⟩ := H.out
      rcases hj with rfl | rfl | rfl
      · exact ⟨by omega, by omega⟩
      · exact ⟨by omega, by omega⟩
      · exact ⟨by omega, by omega⟩)
    (fun j hj => by obtain ⟨e1, _, _, _, _, _, _, e2, e3, e4⟩ := H.out; omega)
    (fun pre O A B ⟨h1, v, h2, h3, h4⟩ hab => ⟨abd_touch h1 hab (Nat.le_refl _), v, (hab.block _ (blk_lt h2) (fun x => x.2 ((h4 _).2 (.inl rfl)))).trans h2, owns_at h3 (fun g hg hl => hab.block g hl (fun x => x.2 ((h4 g).2 (.inr hg)))), h4⟩)
    (fun _ _ _ _ _ h _ => h)
    ⟨Touch.refl _ _, .slice none 0 0, H.out.2.2.2.2.2.2.1, World.ownsRow_nil _ _ _ _, fun j => by simp [Value.ownBlock]⟩ ?assign ?body ?done ?stop
  case assign =>
    intro l x A K hK
    gi_wp2
    exact hK
  case body =>
    rintro l pre i O A ⟨i1, v, i2, i3, i4⟩ hpre
    obtain ⟨hi1, hi2, hi3⟩ := prefix_of_range hpre
    have hll := slL_len (c0 := c0) (c1 := c1) (c2 := c2) (c3 := c3) (c4 := c4) (c5 := c5) (c6 := c6) (k := k) (b := b) (l := pre)
    have HSN := Lib.hid (slL_snoc (c0 := c0) (c1 := c1) (c2 := c2) (c3 := c3) (c4 := c4) (c5 := c5) (c6 := c6) (k := k) (b := b) (l := pre) (i := i))
    obtain ⟨L, hLe⟩ : ∃ L, slL c0 c1 c2 c3 c4 c5 c6 k b pre = L := ⟨_, rfl⟩
    rw [hLe] at i3 hll HSN
    obtain ⟨m, hm⟩ : ∃ m, L.length = m := ⟨_, rfl⟩
    rw [hm] at i3 hll
    obtain ⟨ao, capv, rfl⟩ := own_shape i3
    have hTA : Touch nob w A := H.out.2.1.step i1 (fun j hj => .inr (by have := H.out.1; omega))
    have hLS := Lib.hid (HLS.out A hTA)
    have g0 := blk_touch H.out.2.2.2.1 i1 (by omega)
    have g1 := one_cell (blk_touch H.out.2.2.2.2.1 i1 (by omega))
    have g2 := one_cell (blk_touch H.out.2.2.2.2.2.1 i1 (by omega))
    have gc := cfg_box g0 (Touch.refl _ _)
    have c3' := one_cell i2
    have HB := Lib.hid (And.intro i1 (And.intro i2 (And.intro i3 (And.intro i4 (And.intro hm (And.intro hLe (And.intro hll (And.intro hi1 hi2))))))))
    obtain ⟨q0, q1, q2, q3, q4, q5, q6⟩ := gc
    clear i1 i2 i3 i4 hm hLe hpre hi3 hTA g0 hll hi1 hi2
    gi_wp2_with fail
    refine ⟨trivial, rfl, ?_⟩
    refine (CallsIn.inRound l (callsIn_wide.2 (addr_Slot c0 c1 c2 c3 c4 c5 c6 k b i A hLS.out.1 hLS.out.2))).mono ?_
    rintro e W2 ⟨rfl, hb2⟩
    rw [show ifB (plOk c0 c1 c2 c3 c4 c5 c6 k b (i : Int) 0) (plA c1 k b (i : Int) 0) = slA c0 c1 c2 c3 c4 c5 c6 k b i from rfl]
    obtain ⟨a, ha⟩ : ∃ a, slA c0 c1 c2 c3 c4 c5 c6 k b i = a := ⟨_, rfl⟩
    rw [ha] at HSN ⊢
    have hT2 : Touch nob A W2 := Touch.of_below hb2
    obtain ⟨i1, i2, i3, i4, hm, hLe, hll, hi1, hi2⟩ := HB.out
    have j1 := i1.trans (hT2.mono (fun _ _ x => x.elim))
    have j2 := blk_touch i2 hT2 (fun x => x)
    have j3 := owns_at i3 (fun g hg hl => hT2.block g hl (fun x => x))
    have HB2 := Lib.hid (And.intro j1 (And.intro j2 (And.intro j3 (And.intro i4 (And.intro hm (And.intro hLe hT2))))))
    have hm128 : Hid (m ≤ 128) := by have := HN.out.2; show m ≤ 128; omega
    have hWs : Hid (n0 + 1 + 1 + 1 < W1.heap.size) := by obtain ⟨e1, _, _, _, _, _, _, e2, e3, e4⟩ := H.out; show _ < _; omega
    obtain ⟨n3, hn3⟩ : ∃ n3, n0 + 1 + 1 + 1 = n3 := ⟨_, rfl⟩
    rw [hn3] at j2 ⊢
    have HN3 := Lib.hid hn3
    have c3'' := one_cell j2
    have f3 := one_free j2
    have HA : Hid (W1.heap.size ≤ W2.heap.size) := j1.size
    have HC1 : Hid ((W2.alloc (Obj.cells #[.int .i64 a] 3)).heap[n3]? = some (Obj.cells #[.slice ao m capv] 46)) := (Below.heap_alloc _ _ _ (blk_lt j2)).trans j2
    have HC2 : Hid ((Value.slice ao m capv).ownBlock ≠ some n3) := fun e => by
      have h1 := (j3.lt n3 e).1
      have h2 := hWs.out
      omega
    have HO := Lib.hid j3
    clear hT2 i1 i2 i3 i4 hm hLe hll hi1 hi2 j1 j2 j3 hn3 ha HB hb2
    by_cases ha0 : 0 < a
    · gi_wp2_with (gi_at_builtin; refine wpListIn_append_own_at _ rfl _ _ 46 rfl W1.heap.size 3 i0 (.int .i64 0) 1 8 Tryz.underlying46 hi hz0 hz1 hz2 rfl (by decide) _ m _ rfl (HO.out.alloc _) ⟨W2.heap.size, 0, none⟩ 1 1 [.int .i64 a] rfl rfl (cell_one_new _ _ _) (by simp [Value.oneCell']) (by have := hm128.out; unfold maxLen; omega) (by have := hm128.out; omega) (by have := HA.out; simp; omega) ?_; intro v' w1 hown' hgrow _ hat; have HX := Lib.hid (And.intro hown' (And.intro hgrow hat)); have b1' := grown_box hgrow (HC1.out) HC2.out; have c1' := one_cell b1'; have f1' := one_free b1'; obtain ⟨g', cap', rfl⟩ := ownsRow_succ hown'; clear hown' hgrow hat b1')
      obtain ⟨hown', hgrow, hat⟩ := HX.out
      have hat : some g' = (Value.slice ao m capv).ownBlock ∨ some g' = some (W2.alloc (Obj.cells #[.int .i64 a] 3)).heap.size := hat
      obtain ⟨j1, j2, j3, i4, hm, hLe, hT2⟩ := HB2.out
      have hn3 := HN3.out
      have hb1 := grown_box hgrow HC1.out HC2.out
      have hA0 := HA.out
      have hW0 := hWs.out
      have hs2 := hT2.size
      have hglt : g' < (w1.setCell ⟨n3, 0, none⟩ (.slice (some ⟨g', 0, none⟩) (m + 1) cap')).heap.size := by
        have := (hown'.lt g' rfl).2
        simpa [World.setCell] using this
      have hsub : ∀ j, (j = n0 + 1 + 1 + 1 ∨ j = g') → O j ∨ (A.heap.size ≤ j ∧ j < (w1.setCell ⟨n3, 0, none⟩ (.slice (some ⟨g', 0, none⟩) (m + 1) cap')).heap.size) := by
        rintro j (rfl | hj)
        · exact .inl ((i4 _).2 (.inl rfl))
        · rw [hj]
          rcases hat with h | h
          · exact .inl ((i4 _).2 (.inr h.symm))
          · right
            have : g' = (W2.alloc (Obj.cells #[.int .i64 a] 3)).heap.size := Option.some.inj h
            rw [World.size_alloc] at this
            exact ⟨by omega, hglt⟩
      have hgn : g' ≠ n3 := by
        have := (hown'.lt g' rfl).1
        omega
      have hTA : Touch O A (w1.setCell ⟨n3, 0, none⟩ (.slice (some ⟨g', 0, none⟩) (m + 1) cap')) :=
        (Touch.grown (((hT2.mono (fun _ _ x => x.elim)).alloc _)) hgrow (fun j hj => .inl ((i4 j).2 (.inr hj)))).setCell (.inl ((i4 _).2 (.inl hn3.symm))) _
      refine ⟨fun j => j = n0 + 1 + 1 + 1 ∨ j = g', hTA, hsub, trivial, ?_, .slice (some ⟨g', 0, none⟩) (m + 1) cap', ?_, ?_, fun j => by simp [Value.ownBlock, eq_comm]⟩
      · exact ((j1.alloc _).grown hgrow (fun j hj => .inr (j3.lt j hj).1)).setCell (.inl hn3.symm) _
      · rw [hn3]; exact (set_one _ hb1).trans (by simp)
      · rw [HSN.out, if_pos ha0, List.map_append, List.length_append, hm]
        exact owns_at hown' (fun j hj _ => by cases hj; exact set_other _ hgn)
    · have hd : decide (0 < a) = false := decide_eq_false ha0
      have Ha0 := Lib.hid ha0
      clear ha0
      gi_wp2_with fail
      have ha0 : ¬ 0 < a := by have := Ha0.out; omega
      obtain ⟨j1, j2, j3, i4, hm, hLe, hT2⟩ := HB2.out
      refine ⟨O, hT2.mono (fun _ _ x => x.elim), fun _ h => .inl h, trivial, j1, .slice ao m capv, j2, ?_, i4⟩
      rw [HSN.out, if_neg ha0, List.append_nil, hm]
      exact j3
  case done =>
    rintro D O A hD hO ⟨i1, v, i2, i3, i4⟩ hK
    obtain ⟨ao, capv, rfl⟩ := own_shape i3
    have cc1 := one_cell i2
    have HB := Lib.hid (And.intro i1 (And.intro i3 (And.intro hK (And.intro hD (fun h => hO ((i4 D).2 (.inr h)))))))
    clear i1 i2 i3 i4 hK hD hO
    gi_wp2
    obtain ⟨i1, i3, hK, hD, hO⟩ := HB.out
    refine ⟨by simp, .inl ⟨_, _, rfl, run_takeDeferred hK, ?_⟩⟩
    refine ⟨.slice ao (slL c0 c1 c2 c3 c4 c5 c6 k b (List.range n)).length capv, by simp [results, Tryz.f117, go_sem], _, rfl, ?_, ?_, fun g hg => Nat.le_trans H.out.2.1.size (i3.lt g hg).1⟩
    · exact (H.out.2.1.step i1 (fun i hi => .inr (by have := H.out.1; omega))).putObj (.inr (by have := H.out.2.1.size; omega)) _
    · have h1 := ints_of_ownZ i3
      exact h1.touch (S := fun j => j = D) ((Touch.refl (fun j => j = D) A).putObj (.inl rfl) _) (fun b hb e => hO (by rw [← e]; exact hb))
  case stop =>
    rintro D c pre O A hD hO hpre h hK
    exact h.elim
end Go.Proofs.YtflhjbmoncbomaaGreatDoor
