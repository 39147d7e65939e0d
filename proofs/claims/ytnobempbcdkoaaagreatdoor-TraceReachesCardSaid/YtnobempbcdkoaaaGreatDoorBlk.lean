/- The addresses of a block's slots, walked. Conditions: the tables of limits and of sizes read as laid. Tables of blocks: New, Config, Assign, Class, Copy, walked. Conditions: the tables of limits and of sizes read as laid, where said. Tables of blocks: Assign, Class, Copy, walked. Conditions: none beyond what each says. Slots of a table's blocks, and whose they are: plain laws. Conditions: none. Slices of ints, general lemmas; no program in them. Conditions: none. The document's comparison of lists, walked. Conditions: none. Storing seven cells: general lemmas; no program in them. Conditions: none. Rows of bools: general lemmas. Conditions: none. append, by a name that the walk does not open. Conditions: none. Sets of numbers as words: plain laws; no program in them. Conditions: none. Sets of numbers: New, Size, may, Has, walked. Conditions: none beyond what each says. Sets of numbers: Put, walked. Conditions: none beyond what each says. Sets of numbers: Put and Has of any number. Conditions: none beyond what each says. Sets of numbers: Same, walked. Conditions: none beyond what each says. Sets of numbers: Same, and the law's example, walked. Conditions: none beyond what each says. Sets of numbers: a row of words cloned, and a set copied. Conditions: none beyond what each says. How many bits a word has: plain laws; no program in them. Conditions: none. How many bits are 0 ahead of the lowest one: the library's, for the program. Conditions: its table reads as laid. Sets of numbers: Next, walked. Conditions: the library's table reads as laid. Sets of numbers: All, walked. Conditions: the library's table reads as laid. Sets of numbers: Count, walked. Conditions: none. Sets of numbers: Count, walked. Conditions: none. Tables of blocks: those, Owner, Slots, walked. Conditions: the tables of limits and of sizes read as laid, where said. Tables of blocks: Owner, walked. Conditions: the tables of limits and of sizes read as laid. Tables of blocks: All, walked. Conditions: the tables of limits and of sizes read as laid. -/
import Derived.Test.YtnobempbcdkoaaaGreatDoorLow
import Derived.Deep.RegionHeld3
import Derived.BigRegion
import Derived.Test.YtnobempbcdkoaaaGreatDoorRep
import Derived.Test.YtnobempbcdkoaaaGreatDoorProg
import Derived.Deep.QuietTactic
import Derived.BigQuiet
import Derived.Laws.Bits64b
import Derived.Shelf.Spec.TrailingZeros
import Derived.WalkMore
import Derived.Shelf.Abstract
import Derived.Shelf.RegionOpen
import Derived.OwnWalkIn
import Derived.TacticsInMore
import Derived.LoopNIn
import Derived.LoopIn
import Derived.Deep.AppendLies
namespace Go.Proofs.YtnobempbcdkoaaaGreatDoor
open Go.RowKit Go.Shelf Go.Sort
attribute [local go_sem] Oper.semAt_some

/-- A slot's address, or 0. -/
def slA (c0 c1 c2 c3 c4 c5 c6 k b : Int) (i : Nat) : Int := ifB (plOk c0 c1 c2 c3 c4 c5 c6 k b i 0) (plA c1 k b i 0)
def slL (c0 c1 c2 c3 c4 c5 c6 k b : Int) (l : List Nat) : List Int := (l.map (slA c0 c1 c2 c3 c4 c5 c6 k b)).filter fun a => decide (0 < a)
theorem slL_snoc {c0 c1 c2 c3 c4 c5 c6 k b : Int} {l : List Nat} {i : Nat} : slL c0 c1 c2 c3 c4 c5 c6 k b (l ++ [i]) = slL c0 c1 c2 c3 c4 c5 c6 k b l ++ (if 0 < slA c0 c1 c2 c3 c4 c5 c6 k b i then [slA c0 c1 c2 c3 c4 c5 c6 k b i] else []) := by
  unfold slL
  rw [List.map_append, List.filter_append]
  by_cases h : 0 < slA c0 c1 c2 c3 c4 c5 c6 k b i
  · rw [if_pos h]; simp [h]
  · rw [if_neg h]; simp [h]
theorem slL_len {c0 c1 c2 c3 c4 c5 c6 k b : Int} {l : List Nat} : (slL c0 c1 c2 c3 c4 c5 c6 k b l).length ≤ l.length := by
  unfold slL
  exact Nat.le_trans (List.length_filter_le _ _) (by simp)

theorem ints_of_ownZ {w : World} {base n : Nat} {v : Value} {xs : List Int} (h : w.ownsRow base 3 1 v n (xs.map (Value.int .i64))) : IntsIn w v xs := by
  have hn := h.1
  rcases h.2 with ⟨rfl, rfl⟩ | ⟨g, cap, cur, rfl, hg, hh, hc, hc2, hs, ht⟩
  · have : xs = [] := by simpa using hn
    subst this
    exact ⟨none, 0, rfl, .inl rfl⟩
  · have hl : xs.length = n := by simpa using hn
    refine ⟨some ⟨g, 0, none⟩, cap, by simp [hl], .inr ⟨g, 0, rfl, by simpa [hl] using hc, fun j hj => ?_⟩⟩
    have h5 : cur.toList[j]? = some (Value.int .i64 (xs.getD j 0)) := by
      have h6 : (cur.toList.take n)[j]? = some (Value.int .i64 (xs.getD j 0)) := by
        rw [show cur.toList.take n = xs.map (Value.int .i64) by simpa using ht, List.getElem?_map, List.getElem?_eq_getElem hj, List.getD_eq_getElem?_getD, List.getElem?_eq_getElem hj]
        rfl
      rwa [List.getElem?_take, if_pos (by omega)] at h6
    simpa [World.cell?, hh] using h5

/-- What stands between the rounds: W the world ahead of the range, n0 the first box. -/
def SlI (W : World) (n0 : Nat) (c0 c1 c2 c3 c4 c5 c6 k b : Int) (pre : List Nat) (O : Nat → Prop) (A : World) : Prop :=
  Touch (fun j => j = n0 + 1 + 1 + 1) W A ∧ ∃ v, A.heap[n0 + 1 + 1 + 1]? = some (Obj.cells #[v] 28) ∧ A.ownsRow W.heap.size 3 1 v (slL c0 c1 c2 c3 c4 c5 c6 k b pre).length ((slL c0 c1 c2 c3 c4 c5 c6 k b pre).map (.int .i64)) ∧ ∀ j, O j ↔ (j = n0 + 1 + 1 + 1 ∨ v.ownBlock = some j)

set_option maxHeartbeats 2000000 in
theorem addr_Slots (c0 c1 c2 c3 c4 c5 c6 k b : Int) (w : World) (hL : Limits w) (hS : Sizes w) (n : Nat) (hn : perBlock c1 k = n) :
    Calls Tryz.prog 183 #[CfgV c0 c1 c2 c3 c4 c5 c6, .int .i64 k, .int .i64 b] w fun e w' => ∃ v, e = .returned v ∧ Touch nob w w' ∧ IntsIn w' v (slL c0 c1 c2 c3 c4 c5 c6 k b (List.range n)) ∧ ∀ g, v.ownBlock = some g → w.heap.size ≤ g := by
  refine (callsIn_wide (n := 0)).1 (callsIn_of_wp_marks Tryz.func183 rfl trivial ?_ rfl)
  simp only [Tryz.ntmps183, List.size_toArray, List.length_cons, List.length_nil, Nat.reduceAdd, Nat.reduceSub, Array.replicate_succ, Array.replicate_zero, List.push_toArray, List.append_toArray, List.nil_append, List.cons_append]
  have hg : 2 < w.heap.size := by
    obtain ⟨o, ho, _⟩ := cells_of_cell hS.1
    exact (Array.getElem?_eq_some_iff.1 ho).1
  have HLS := Lib.hid (fun w' (ht : Touch nob w w') => And.intro (hL.touch (S := nob) ht (fun x => x)) (hS.touch (S := nob) ht (fun x => x)))
  clear hL hS
  have hnf : ∀ (fn : Fn) (a b : Array Value) (w : World), (binOp .eql 46 (.func fn a b) .nilFunc).run Tryz.prog w = .ok (.bool false) w := fun _ _ _ _ => by kernel_rfl
  have hn128 : n ≤ 128 := by
    have := hn
    unfold perBlock at this
    split at this
    · rename_i hh
      simp only [Bool.and_eq_true, wordsOk, decide_eq_true_eq] at hh
      have := (per_bd c1 (clsSize k) (by omega) (by omega) (clsSize_lo hh.1) (clsSize_bd k).2).2.1
      omega
    · omega
  have HN := Lib.hid (And.intro hn hn128)
  clear hn hn128
  gi_wp2_with fail
  obtain ⟨W, hW⟩ : ∃ W, W = ((((w.alloc (Obj.cells (CfgRow c0 c1 c2 c3 c4 c5 c6) 23)).alloc (Obj.cells #[Value.int .i64 k] 3)).alloc (Obj.cells #[Value.int .i64 b] 3)).alloc (Obj.cells #[Value.slice none 0 0] 28)) := ⟨_, rfl⟩
  rw [← hW]
  have hsz : W.heap.size = w.heap.size + 4 := by rw [hW]; simp
  have hT : Touch nob w W := by rw [hW]; (repeat (first | with_reducible exact Touch.refl _ _ | with_reducible assumption | with_reducible apply Touch.alloc | with_reducible apply Touch.drewN | with_reducible apply Touch.drew | with_reducible refine Touch.setCell ?_ (.inr (by first | omega | (simp; done) | (simp; omega))) _))
  have b0 : W.heap[w.heap.size]? = some (Obj.cells (CfgRow c0 c1 c2 c3 c4 c5 c6) 23) := by rw [hW]; simp only [heap_alloc_if, World.size_alloc]; repeat (first | rw [if_pos rfl] | rw [if_pos trivial] | rw [if_neg (by omega)])
  have b1 : W.heap[w.heap.size + 1]? = some (Obj.cells #[Value.int .i64 k] 3) := by rw [hW]; simp only [heap_alloc_if, World.size_alloc]; repeat (first | rw [if_pos rfl] | rw [if_pos trivial] | rw [if_neg (by omega)])
  have b2 : W.heap[w.heap.size + 1 + 1]? = some (Obj.cells #[Value.int .i64 b] 3) := by rw [hW]; simp only [heap_alloc_if, World.size_alloc]; repeat (first | rw [if_pos rfl] | rw [if_pos trivial] | rw [if_neg (by omega)])
  have b3 : W.heap[w.heap.size + 1 + 1 + 1]? = some (Obj.cells #[Value.slice none 0 0] 28) := by rw [hW]; simp only [heap_alloc_if, World.size_alloc]; repeat (first | rw [if_pos rfl] | rw [if_pos trivial] | rw [if_neg (by omega)])
  clear hW
  refine ⟨trivial, rfl, ?_⟩
  refine (callsIn_wide.2 (class_Starts c1 k W)).mono ?_
  rintro e W1 ⟨rfl, hW1⟩
  have hT1 : Touch nob W W1 := by rw [hW1]; (repeat (first | with_reducible exact Touch.refl _ _ | with_reducible assumption | with_reducible apply Touch.alloc | with_reducible apply Touch.drewN | with_reducible apply Touch.drew | with_reducible refine Touch.setCell ?_ (.inr (by first | omega | (simp; done) | (simp; omega))) _))
  have d0 : W1.heap[W.heap.size]? = some (Obj.cells #[Value.int .i64 c1] 3) := by rw [hW1]; exact alloc2_0 W _ _
  have d1 : W1.heap[W.heap.size + 1]? = some (Obj.cells #[Value.int .i64 k] 3) := by rw [hW1]; exact alloc2_1 W _ _
  have hs1 : W1.heap.size = W.heap.size + 2 := by rw [hW1]; simp
  obtain ⟨n0, hn0⟩ : ∃ n, n = w.heap.size := ⟨_, rfl⟩
  obtain ⟨m0, hm0⟩ : ∃ n, n = W.heap.size := ⟨_, rfl⟩
  rw [← hn0] at hsz b0 b1 b2 b3 ⊢
  rw [← hm0] at hsz d0 d1 hs1 ⊢
  have hIt := starts1_iter c1 k m0 (m0 + 1) n HN.out.1 W1 (HLS.out W1 (hT.trans hT1)).2 (by omega) (by omega) (by omega) (one_cell d0) (one_cell d1)
  have H := Lib.hid (And.intro hn0 (And.intro (hT.trans hT1) (And.intro hIt (And.intro (blk_touch b0 hT1 (fun x => x)) (And.intro (blk_touch b1 hT1 (fun x => x)) (And.intro (blk_touch b2 hT1 (fun x => x)) (And.intro (blk_touch b3 hT1 (fun x => x)) (And.intro hsz (And.intro hs1 hg)))))))))
  clear hW1 hT hT1 b0 b1 b2 b3 d0 d1 hs1 hsz hn0 hm0 hIt hg
  gi_wp2_with fail
  obtain ⟨i0, hi, hz0, hz1, hz2⟩ := info_parts info_int2
  refine rf_law1 ?a1 (O₀ := fun j => j = n0 + 1 + 1 + 1) rfl (enters_of Tryz.func188 (by kernel_rfl) rfl) H.out.2.2.1 (fun _ => rfl) abD_T abD_M abD_O (fun _ _ _ _ _ _ _ => trivial)
    (SlI W1 n0 c0 c1 c2 c3 c4 c5 c6 k b) (fun _ _ _ _ => False)
    (fun j hj => by
      obtain ⟨e1, _, _, _, _, _, _, e2, e3, e4⟩ := H.out
      rcases hj with rfl | rfl | rfl
      · exact ⟨by omega, by omega⟩
      · exact ⟨by omega, by omega⟩
      · exact ⟨by omega, by omega⟩)
    (fun j hj => by obtain ⟨e1, _, _, _, _, _, _, e2, e3, e4⟩ := H.out; omega)
    (fun pre O A B ⟨h1, v, h2, h3, h4⟩ hab => ⟨abd_touch h1 hab (Nat.le_refl _), v, (hab.block _ (blk_lt h2) (fun x => x.2 ((h4 _).2 (.inl rfl)))).trans h2, owns_at h3 (fun g hg hl => hab.block g hl (fun x => x.2 ((h4 g).2 (.inr hg)))), h4⟩)
    (fun _ _ _ _ _ h _ => h)
    ⟨Touch.refl _ _, .slice none 0 0, H.out.2.2.2.2.2.2.1, World.ownsRow_nil _ _ _ _, fun j => by simp [Value.ownBlock]⟩ ?assign ?body ?done ?stop
  case assign =>
    intro l x A K hK
    gi_wp2
    exact hK
  case body =>
    rintro l pre i O A ⟨i1, v, i2, i3, i4⟩ hpre
    obtain ⟨hi1, hi2, hi3⟩ := prefix_of_range hpre
    have hll := slL_len (c0 := c0) (c1 := c1) (c2 := c2) (c3 := c3) (c4 := c4) (c5 := c5) (c6 := c6) (k := k) (b := b) (l := pre)
    have HSN := Lib.hid (slL_snoc (c0 := c0) (c1 := c1) (c2 := c2) (c3 := c3) (c4 := c4) (c5 := c5) (c6 := c6) (k := k) (b := b) (l := pre) (i := i))
    obtain ⟨L, hLe⟩ : ∃ L, slL c0 c1 c2 c3 c4 c5 c6 k b pre = L := ⟨_, rfl⟩
    rw [hLe] at i3 hll HSN
    obtain ⟨m, hm⟩ : ∃ m, L.length = m := ⟨_, rfl⟩
    rw [hm] at i3 hll
    obtain ⟨ao, capv, rfl⟩ := own_shape i3
    have hTA : Touch nob w A := H.out.2.1.step i1 (fun j hj => .inr (by have := H.out.1; omega))
    have hLS := Lib.hid (HLS.out A hTA)
    have g0 := blk_touch H.out.2.2.2.1 i1 (by omega)
    have g1 := one_cell (blk_touch H.out.2.2.2.2.1 i1 (by omega))
    have g2 := one_cell (blk_touch H.out.2.2.2.2.2.1 i1 (by omega))
    have gc := cfg_box g0 (Touch.refl _ _)
    have c3' := one_cell i2
    have HB := Lib.hid (And.intro i1 (And.intro i2 (And.intro i3 (And.intro i4 (And.intro hm (And.intro hLe (And.intro hll (And.intro hi1 hi2))))))))
    obtain ⟨q0, q1, q2, q3, q4, q5, q6⟩ := gc
    clear i1 i2 i3 i4 hm hLe hpre hi3 hTA g0 hll hi1 hi2
    gi_wp2_with fail
    refine ⟨trivial, rfl, ?_⟩
    refine (CallsIn.inRound l (callsIn_wide.2 (addr_Slot c0 c1 c2 c3 c4 c5 c6 k b i A hLS.out.1 hLS.out.2))).mono ?_
    rintro e W2 ⟨rfl, hb2⟩
    rw [show ifB (plOk c0 c1 c2 c3 c4 c5 c6 k b (i : Int) 0) (plA c1 k b (i : Int) 0) = slA c0 c1 c2 c3 c4 c5 c6 k b i from rfl]
    obtain ⟨a, ha⟩ : ∃ a, slA c0 c1 c2 c3 c4 c5 c6 k b i = a := ⟨_, rfl⟩
    rw [ha] at HSN ⊢
    have hT2 : Touch nob A W2 := Touch.of_below hb2
    obtain ⟨i1, i2, i3, i4, hm, hLe, hll, hi1, hi2⟩ := HB.out
    have j1 := i1.trans (hT2.mono (fun _ _ x => x.elim))
    have j2 := blk_touch i2 hT2 (fun x => x)
    have j3 := owns_at i3 (fun g hg hl => hT2.block g hl (fun x => x))
    have HB2 := Lib.hid (And.intro j1 (And.intro j2 (And.intro j3 (And.intro i4 (And.intro hm (And.intro hLe hT2))))))
    have hm128 : Hid (m ≤ 128) := by have := HN.out.2; show m ≤ 128; omega
    have hWs : Hid (n0 + 1 + 1 + 1 < W1.heap.size) := by obtain ⟨e1, _, _, _, _, _, _, e2, e3, e4⟩ := H.out; show _ < _; omega
    obtain ⟨n3, hn3⟩ : ∃ n3, n0 + 1 + 1 + 1 = n3 := ⟨_, rfl⟩
    rw [hn3] at j2 ⊢
    have HN3 := Lib.hid hn3
    have c3'' := one_cell j2
    have f3 := one_free j2
    have HA : Hid (W1.heap.size ≤ W2.heap.size) := j1.size
    have HC1 : Hid ((W2.alloc (Obj.cells #[.int .i64 a] 3)).heap[n3]? = some (Obj.cells #[.slice ao m capv] 28)) := (Below.heap_alloc _ _ _ (blk_lt j2)).trans j2
    have HC2 : Hid ((Value.slice ao m capv).ownBlock ≠ some n3) := fun e => by
      have h1 := (j3.lt n3 e).1
      have h2 := hWs.out
      omega
    have HO := Lib.hid j3
    clear hT2 i1 i2 i3 i4 hm hLe hll hi1 hi2 j1 j2 j3 hn3 ha HB hb2
    by_cases ha0 : 0 < a
    · gi_wp2_with (gi_at_builtin; refine wpListIn_append_own_at _ rfl _ _ 28 rfl W1.heap.size 3 i0 (.int .i64 0) 1 8 Tryz.underlying28 hi hz0 hz1 hz2 rfl (by decide) _ m _ rfl (HO.out.alloc _) ⟨W2.heap.size, 0, none⟩ 1 1 [.int .i64 a] rfl rfl (cell_one_new _ _ _) (by simp [Value.oneCell']) (by have := hm128.out; unfold maxLen; omega) (by have := hm128.out; omega) (by have := HA.out; simp; omega) ?_; intro v' w1 hown' hgrow _ hat; have HX := Lib.hid (And.intro hown' (And.intro hgrow hat)); have b1' := grown_box hgrow (HC1.out) HC2.out; have c1' := one_cell b1'; have f1' := one_free b1'; obtain ⟨g', cap', rfl⟩ := ownsRow_succ hown'; clear hown' hgrow hat b1')
      obtain ⟨hown', hgrow, hat⟩ := HX.out
      have hat : some g' = (Value.slice ao m capv).ownBlock ∨ some g' = some (W2.alloc (Obj.cells #[.int .i64 a] 3)).heap.size := hat
      obtain ⟨j1, j2, j3, i4, hm, hLe, hT2⟩ := HB2.out
      have hn3 := HN3.out
      have hb1 := grown_box hgrow HC1.out HC2.out
      have hA0 := HA.out
      have hW0 := hWs.out
      have hs2 := hT2.size
      have hglt : g' < (w1.setCell ⟨n3, 0, none⟩ (.slice (some ⟨g', 0, none⟩) (m + 1) cap')).heap.size := by
        have := (hown'.lt g' rfl).2
        simpa [World.setCell] using this
      have hsub : ∀ j, (j = n0 + 1 + 1 + 1 ∨ j = g') → O j ∨ (A.heap.size ≤ j ∧ j < (w1.setCell ⟨n3, 0, none⟩ (.slice (some ⟨g', 0, none⟩) (m + 1) cap')).heap.size) := by
        rintro j (rfl | hj)
        · exact .inl ((i4 _).2 (.inl rfl))
        · rw [hj]
          rcases hat with h | h
          · exact .inl ((i4 _).2 (.inr h.symm))
          · right
            have : g' = (W2.alloc (Obj.cells #[.int .i64 a] 3)).heap.size := Option.some.inj h
            rw [World.size_alloc] at this
            exact ⟨by omega, hglt⟩
      have hgn : g' ≠ n3 := by
        have := (hown'.lt g' rfl).1
        omega
      have hTA : Touch O A (w1.setCell ⟨n3, 0, none⟩ (.slice (some ⟨g', 0, none⟩) (m + 1) cap')) :=
        (Touch.grown (((hT2.mono (fun _ _ x => x.elim)).alloc _)) hgrow (fun j hj => .inl ((i4 j).2 (.inr hj)))).setCell (.inl ((i4 _).2 (.inl hn3.symm))) _
      refine ⟨fun j => j = n0 + 1 + 1 + 1 ∨ j = g', hTA, hsub, trivial, ?_, .slice (some ⟨g', 0, none⟩) (m + 1) cap', ?_, ?_, fun j => by simp [Value.ownBlock, eq_comm]⟩
      · exact ((j1.alloc _).grown hgrow (fun j hj => .inr (j3.lt j hj).1)).setCell (.inl hn3.symm) _
      · rw [hn3]; exact (set_one _ hb1).trans (by simp)
      · rw [HSN.out, if_pos ha0, List.map_append, List.length_append, hm]
        exact owns_at hown' (fun j hj _ => by cases hj; exact set_other _ hgn)
    · have hd : decide (0 < a) = false := decide_eq_false ha0
      have Ha0 := Lib.hid ha0
      clear ha0
      gi_wp2_with fail
      have ha0 : ¬ 0 < a := by have := Ha0.out; omega
      obtain ⟨j1, j2, j3, i4, hm, hLe, hT2⟩ := HB2.out
      refine ⟨O, hT2.mono (fun _ _ x => x.elim), fun _ h => .inl h, trivial, j1, .slice ao m capv, j2, ?_, i4⟩
      rw [HSN.out, if_neg ha0, List.append_nil, hm]
      exact j3
  case done =>
    rintro D O A hD hO ⟨i1, v, i2, i3, i4⟩ hK
    obtain ⟨ao, capv, rfl⟩ := own_shape i3
    have cc1 := one_cell i2
    have HB := Lib.hid (And.intro i1 (And.intro i3 (And.intro hK (And.intro hD (fun h => hO ((i4 D).2 (.inr h)))))))
    clear i1 i2 i3 i4 hK hD hO
    gi_wp2
    obtain ⟨i1, i3, hK, hD, hO⟩ := HB.out
    refine ⟨by simp, .inl ⟨_, _, rfl, run_takeDeferred hK, ?_⟩⟩
    refine ⟨.slice ao (slL c0 c1 c2 c3 c4 c5 c6 k b (List.range n)).length capv, by simp [results, Tryz.f183, go_sem], _, rfl, ?_, ?_, fun g hg => Nat.le_trans H.out.2.1.size (i3.lt g hg).1⟩
    · exact (H.out.2.1.step i1 (fun i hi => .inr (by have := H.out.1; omega))).putObj (.inr (by have := H.out.2.1.size; omega)) _
    · have h1 := ints_of_ownZ i3
      exact h1.touch (S := fun j => j = D) ((Touch.refl (fun j => j = D) A).putObj (.inl rfl) _) (fun b hb e => hO (by rw [← e]; exact hb))
  case stop =>
    rintro D c pre O A hD hO hpre h hK
    exact h.elim
end Go.Proofs.YtnobempbcdkoaaaGreatDoor
namespace Go.Proofs.YtnobempbcdkoaaaGreatDoor
open Go.RowKit

structure Cf where
  c0 : Int
  c1 : Int
  c2 : Int
  c3 : Int
  c4 : Int
  c5 : Int
  c6 : Int
abbrev Cf.V (c : Cf) : Value := CfgV c.c0 c.c1 c.c2 c.c3 c.c4 c.c5 c.c6
abbrev Cf.ok (c : Cf) : Bool := cfgOk c.c0 c.c1 c.c2 c.c3 c.c4 c.c5 c.c6
/-- What the cells of the classes hold. -/
def kint (ks : List Int) (n : Nat) : List Int := ks.map (fun k => k + 1) ++ List.replicate (n - ks.length) 0
theorem kint_len {ks : List Int} {n : Nat} (h : ks.length ≤ n) : (kint ks n).length = n := by unfold kint; simp; omega
theorem kint_lt {ks : List Int} {n j : Nat} (h : j < ks.length) : (kint ks n).getD j 0 = ks.getD j 0 + 1 := by
  unfold kint
  rw [List.getD_eq_getElem?_getD, List.getElem?_append_left (by simpa using h), List.getElem?_map, List.getD_eq_getElem?_getD, List.getElem?_eq_getElem h]
  rfl
theorem kint_ge {ks : List Int} {n j : Nat} (h : ks.length ≤ j) : (kint ks n).getD j 0 = 0 := by
  unfold kint
  rw [List.getD_eq_getElem?_getD, List.getElem?_append_right (by simpa using h), List.getElem?_replicate]
  split <;> rfl
theorem getD_append_left {l r : List Int} {i : Nat} (h : i < l.length) : (l ++ r).getD i 0 = l.getD i 0 := by
  simp [List.getD_eq_getElem?_getD, List.getElem?_append_left h]
theorem getD_snoc {l : List Int} {k : Int} : (l ++ [k]).getD l.length 0 = k := by simp [List.getD_eq_getElem?_getD]
theorem ext_getD {l r : List Int} (hl : l.length = r.length) (h : ∀ i, i < l.length → l.getD i 0 = r.getD i 0) : l = r := by
  apply List.ext_getElem hl
  intro i h1 h2
  have := h i h1
  rwa [List.getD_eq_getElem?_getD, List.getD_eq_getElem?_getD, List.getElem?_eq_getElem h1, List.getElem?_eq_getElem h2] at this
theorem getD_setI {l : List Int} {i j : Nat} {x : Int} (hi : i < l.length) : (l.set i x).getD j 0 = if i = j then x else l.getD j 0 := by
  rw [List.getD_eq_getElem?_getD, List.getD_eq_getElem?_getD, List.getElem?_set]
  by_cases hij : i = j
  · subst hij; simp [hi]
  · simp [hij]
theorem kint_snoc {ks : List Int} {n : Nat} {k : Int} (h : ks.length < n) : kint (ks ++ [k]) n = (kint ks n).set ks.length (k + 1) := by
  have hl : ks.length < (kint ks n).length := by rw [kint_len (by omega)]; exact h
  refine ext_getD (by rw [List.length_set, kint_len (by simp; omega), kint_len (by omega)]) fun i _ => ?_
  rw [getD_setI hl]
  by_cases hi : ks.length = i
  · subst hi
    rw [if_pos rfl, kint_lt (ks := ks ++ [k]) (j := ks.length) (by simp), getD_snoc]
  · rw [if_neg hi]
    by_cases hil : i < ks.length
    · rw [kint_lt (ks := ks) hil, kint_lt (ks := ks ++ [k]) (j := i) (by simp; omega), getD_append_left hil]
    · rw [kint_ge (ks := ks) (j := i) (by omega), kint_ge (ks := ks ++ [k]) (j := i) (by simp; omega)]
/-- A table: its box, its row, the classes of the blocks that are assigned. -/
structure BlkAt (w : World) (p q cap n : Nat) (c : Cf) (ks : List Int) : Prop where
  box : w.heap[p]? = some (.cells #[.int .i64 c.c0, .int .i64 c.c1, .int .i64 c.c2, .int .i64 c.c3, .int .i64 c.c4, .int .i64 c.c5, .int .i64 c.c6, .slice (some ⟨q, 0, none⟩) n cap] 195)
  row : RowAt w q 3 cap ((kint ks n).map (.int .i64))
  ok : c.ok = true
  hn : (n : Int) = c.c0
  le : ks.length ≤ n
  cls : ∀ j, j < ks.length → isCls (ks.getD j 0) = true
variable {w : World} {p q cap n : Nat} {c : Cf} {ks : List Int}
theorem BlkAt.n4 (h : BlkAt w p q cap n c ks) : 1 ≤ n ∧ n ≤ 4096 := by
  have := (cfgOk_iff.1 h.ok).1
  have := h.hn
  omega
theorem BlkAt.ne (h : BlkAt w p q cap n c ks) : p ≠ q := by
  rintro rfl
  obtain ⟨_, h1, _⟩ := h.row
  have := h.box.symm.trans h1
  simp at this
theorem BlkAt.touch {S : Nat → Prop} {w' : World} (h : BlkAt w p q cap n c ks) (ht : Touch S w w') (hp : ¬ S p) (hq : ¬ S q) : BlkAt w' p q cap n c ks :=
  ⟨blk_touch h.box ht hp, h.row.touch ht hq, h.ok, h.hn, h.le, h.cls⟩
theorem BlkAt.old {w' : World} (h : BlkAt w p q cap n c ks) (ht : Touch nob w w') : BlkAt w' p q cap n c ks := h.touch ht (fun x => x) (fun x => x)
theorem box8 {w : World} {b : Nat} {v0 v1 v2 v3 v4 v5 v6 v7 : Value} {t : TypeId} (h : w.heap[b]? = some (.cells #[v0, v1, v2, v3, v4, v5, v6, v7] t)) :
    (w.cell? ⟨b, 0, none⟩ = some v0 ∧ w.cell? ⟨b, 1, none⟩ = some v1 ∧ w.cell? ⟨b, 2, none⟩ = some v2 ∧ w.cell? ⟨b, 3, none⟩ = some v3) ∧ w.cell? ⟨b, 4, none⟩ = some v4 ∧ w.cell? ⟨b, 5, none⟩ = some v5 ∧ w.cell? ⟨b, 6, none⟩ = some v6 ∧ w.cell? ⟨b, 7, none⟩ = some v7 := by
  simp [World.cell?, h]
theorem int_cell {xs : List Int} {cap : Nat} (h : RowAt w q 3 cap (xs.map (.int .i64))) {i : Nat} (hi : i < xs.length) : w.cell? ⟨q, i, none⟩ = some (.int .i64 (xs.getD i 0)) := by
  rw [h.cell (j := i) (by simpa using hi)]
  simp [List.getD_eq_getElem?_getD, hi]
theorem made_ints (n : Nat) : (madeCells (Value.int .i64 0).cells (n * 1)).toList = (kint [] n).map (.int .i64) := by
  apply List.ext_getElem?
  intro i
  simp only [madeCells, Nat.mul_one, Array.toList_map, Array.toList_range, List.getElem?_map, kint]
  by_cases hi : i < n
  · simp [hi, Value.cells, Nat.mod_one]
  · simp [hi]

/-- make, by a name that the walk does not open. -/
def Mksl (t : TypeId) (l c : Value) : Sem Value := Instr.makeSlice t l c
theorem make_mksl (t : TypeId) (l c : Value) : Instr.makeSlice t l c = Mksl t l c := rfl
section
attribute [local go_sem ↓ high] make_mksl
theorem block_New_ok (c : Cf) (w : World) (hL : Limits w) (hc : c.ok = true) (n : Nat) (hn : (n : Int) = c.c0) :
    Calls Tryz.prog 119 #[c.V] w fun e w' => ∃ p q, e = .returned (.tuple #[.pointer (some ⟨p, 0, none⟩), .int .i64 0]) ∧ Touch nob w w' ∧ w.heap.size ≤ p ∧ w.heap.size ≤ q ∧ BlkAt w' p q n n c [] := by
  obtain ⟨i0, hi, hz0, hz1, hz2⟩ := info_parts info_int2
  have hn4 : n ≤ 4096 := by have := (cfgOk_iff.1 hc).1; omega
  have HH := Lib.hid (And.intro hL (And.intro hc hn))
  obtain ⟨c0, c1, c2, c3, c4, c5, c6⟩ := c
  simp only at hn
  subst hn
  clear hL hc
  go_enter Tryz.func119, Tryz.ntmps119
  go_wp2_with (go_at_call 148; fail)
  obtain ⟨W, hW⟩ : ∃ W, W = w.alloc (Obj.cells (CfgRow (n : Int) c1 c2 c3 c4 c5 c6) 23) := ⟨_, rfl⟩
  rw [← hW]
  have hT : Touch nob w W := by rw [hW]; (repeat (first | with_reducible exact Touch.refl _ _ | with_reducible assumption | with_reducible apply Touch.alloc | with_reducible apply Touch.drewN | with_reducible apply Touch.drew | with_reducible refine Touch.setCell ?_ (.inr (by first | omega | (simp; done) | (simp; omega))) _))
  have hbx : W.heap[w.heap.size]? = some (Obj.cells (CfgRow (n : Int) c1 c2 c3 c4 c5 c6) 23) := by rw [hW]; exact World.alloc_heap_new w _
  obtain ⟨b0, hb0⟩ : ∃ b, b = w.heap.size := ⟨_, rfl⟩
  rw [← hb0] at hbx ⊢
  refine (config_Right _ _ _ _ _ _ _ W (HH.out.1.touch hT (fun x => x))).mono ?_
  rintro e w1 ⟨rfl, hb1⟩
  rw [show cfgOk (n : Int) c1 c2 c3 c4 c5 c6 = true from HH.out.2.1]
  have HT : Hid (Touch nob w w1) := hT.trans (Touch.of_below hb1)
  obtain ⟨k0, k1, k2, k3, k4, k5, k6⟩ := cfg_box hbx (Touch.of_below hb1)
  have hb1l : b0 < w1.heap.size := Nat.lt_of_lt_of_le (blk_lt hbx) (Touch.of_below (S := nob) hb1).size
  clear hT hbx hb0 hW hb1
  obtain ⟨w2, hrun, hown, hgrow⟩ := run_make_full (P := Tryz.prog) w1.drew w1.heap.size 28 3 i0 (.int .i64 0) 1 Tryz.underlying28 hi hz0 hz1 .i64 .i64 n (by rw [hz2]; omega) (by unfold maxLen; omega) (Nat.le_refl _)
  change (Mksl _ _ _).run _ _ = _ at hrun
  rw [made_ints] at hown
  obtain ⟨hr, _, _⟩ := RowAt.of_owns hown
  have hT2 : Touch nob w1 w2 := ((Touch.refl nob w1).drew).grown hgrow (fun _ h => by cases h)
  have y0 := (hT2.cell (o := 0) hb1l (fun x => x)).trans k0
  have y1 := (hT2.cell (o := 1) hb1l (fun x => x)).trans k1
  have y2 := (hT2.cell (o := 2) hb1l (fun x => x)).trans k2
  have y3 := (hT2.cell (o := 3) hb1l (fun x => x)).trans k3
  have y4 := (hT2.cell (o := 4) hb1l (fun x => x)).trans k4
  have y5 := (hT2.cell (o := 5) hb1l (fun x => x)).trans k5
  have y6 := (hT2.cell (o := 6) hb1l (fun x => x)).trans k6
  have HX := Lib.hid (And.intro hr hT2)
  clear hown hgrow hr hT2
  go_wp2_with fail
  go_region
  all_goals
    go_wp2
    go_ret2
    have hT2 := HX.out.2
    exact ⟨w2.heap.size, w1.heap.size, rfl, (HT.out.trans hT2).alloc _, (HT.out.trans hT2).size, HT.out.size, ⟨World.alloc_heap_new w2 _, HX.out.1.touch ((Touch.refl nob _).alloc _) (fun x => x), HH.out.2.1, rfl, Nat.zero_le _, fun j hj => by simp at hj⟩⟩
end
theorem block_New_no (c : Cf) (w : World) (hL : Limits w) (hc : c.ok = false) :
    Calls Tryz.prog 119 #[c.V] w fun e w' => e = .returned (.tuple #[.pointer none, .int .i64 1]) ∧ Touch nob w w' := by
  go_enter Tryz.func119, Tryz.ntmps119
  go_wp2_with (go_at_call 148; fail)
  have hT : Touch nob w (w.alloc (Obj.cells (CfgRow c.c0 c.c1 c.c2 c.c3 c.c4 c.c5 c.c6) 23)) := by (repeat (first | with_reducible exact Touch.refl _ _ | with_reducible assumption | with_reducible apply Touch.alloc | with_reducible apply Touch.drewN | with_reducible apply Touch.drew | with_reducible refine Touch.setCell ?_ (.inr (by first | omega | (simp; done) | (simp; omega))) _))
  refine (config_Right _ _ _ _ _ _ _ _ (hL.touch hT (fun x => x))).mono ?_
  rintro e w1 ⟨rfl, hb1⟩
  rw [show cfgOk c.c0 c.c1 c.c2 c.c3 c.c4 c.c5 c.c6 = false from hc]
  have HT := Lib.hid (hT.trans (Touch.of_below hb1))
  clear hb1 hT
  go_wp2
  go_ret2
  exact ⟨rfl, HT.out⟩
theorem blk_Config (h : BlkAt w p q cap n c ks) :
    Calls Tryz.prog 139 #[.pointer (some ⟨p, 0, none⟩)] w fun e w' => e = .returned c.V ∧ Touch nob w w' := by
  obtain ⟨W, hW⟩ : ∃ W, W = w.alloc (Obj.cells (CfgRow 0 0 0 0 0 0 0) 23) := ⟨_, rfl⟩
  have hT : Touch nob w W := by rw [hW]; (repeat (first | with_reducible exact Touch.refl _ _ | with_reducible assumption | with_reducible apply Touch.alloc | with_reducible apply Touch.drewN | with_reducible apply Touch.drew | with_reducible refine Touch.setCell ?_ (.inr (by first | omega | (simp; done) | (simp; omega))) _))
  have hbx : W.heap[w.heap.size]? = some (Obj.cells (CfgRow 0 0 0 0 0 0 0) 23) := by rw [hW]; exact World.alloc_heap_new w _
  obtain ⟨⟨d0, d1, d2, d3⟩, d4, d5, d6, d7⟩ := box8 (h.old hT).box
  obtain ⟨k0, k1, k2, k3, k4, k5, k6⟩ := cfg_box hbx (Touch.refl _ _)
  have f0 : ∀ j, W.frozen? ⟨w.heap.size, j, none⟩ = false := fun j => by simp [World.frozen?, hbx]
  have g0 := f0 0; have g1 := f0 1; have g2 := f0 2; have g3 := f0 3; have g4 := f0 4; have g5 := f0 5; have g6 := f0 6
  have HT := Lib.hid (And.intro hT hbx)
  subst hW
  clear hT hbx f0 h
  go_enter Tryz.func139, Tryz.ntmps139
  go_wp2
  have hbx : (w.alloc (Obj.cells (CfgRow c.c0 c.c1 c.c2 c.c3 c.c4 c.c5 c.c6) 23)).heap[w.heap.size]? = some (Obj.cells (CfgRow c.c0 c.c1 c.c2 c.c3 c.c4 c.c5 c.c6) 23) := World.alloc_heap_new w _
  obtain ⟨y0, y1, y2, y3, y4, y5, y6⟩ := cfg_box hbx (Touch.refl _ _)
  refine bodyPost_ret (v := c.V) (by simp [results, Tryz.results139, go_sem, y0, y1, y2, y3, y4, y5, y6]) rfl ⟨rfl, ?_⟩
  (repeat (first | with_reducible exact Touch.refl _ _ | with_reducible assumption | with_reducible apply Touch.alloc | with_reducible apply Touch.drewN | with_reducible apply Touch.drew | with_reducible refine Touch.setCell ?_ (.inr (by first | omega | (simp; done) | (simp; omega))) _))
theorem blk_Config_nil (w : World) :
    Calls Tryz.prog 139 #[.pointer none] w fun e w' => e = .returned (CfgV 0 0 0 0 0 0 0) ∧ Touch nob w w' := by
  obtain ⟨W, hW⟩ : ∃ W, W = w.alloc (Obj.cells (CfgRow 0 0 0 0 0 0 0) 23) := ⟨_, rfl⟩
  have hT : Touch nob w W := by rw [hW]; (repeat (first | with_reducible exact Touch.refl _ _ | with_reducible assumption | with_reducible apply Touch.alloc | with_reducible apply Touch.drewN | with_reducible apply Touch.drew | with_reducible refine Touch.setCell ?_ (.inr (by first | omega | (simp; done) | (simp; omega))) _))
  have hbx : W.heap[w.heap.size]? = some (Obj.cells (CfgRow 0 0 0 0 0 0 0) 23) := by rw [hW]; exact World.alloc_heap_new w _
  obtain ⟨k0, k1, k2, k3, k4, k5, k6⟩ := cfg_box hbx (Touch.refl _ _)
  have f0 : ∀ j, W.frozen? ⟨w.heap.size, j, none⟩ = false := fun j => by simp [World.frozen?, hbx]
  have g0 := f0 0; have g1 := f0 1; have g2 := f0 2; have g3 := f0 3; have g4 := f0 4; have g5 := f0 5; have g6 := f0 6
  have HT := Lib.hid (And.intro hT hbx)
  subst hW
  clear hT hbx f0
  go_enter Tryz.func139, Tryz.ntmps139
  go_wp2
  refine bodyPost_ret (v := CfgV 0 0 0 0 0 0 0) (by simp [results, Tryz.results139, go_sem, k0, k1, k2, k3, k4, k5, k6]) rfl ⟨rfl, ?_⟩
  exact HT.out.1
theorem blk_Class_ok (b : Nat) (h : BlkAt w p q cap n c ks) (hb : b < ks.length) :
    Calls Tryz.prog 163 #[.pointer (some ⟨p, 0, none⟩), .int .i64 b] w fun e w' => e = .returned (.tuple #[.int .i64 (ks.getD b 0), .bool true]) ∧ w = w' := by
  obtain ⟨⟨d0, d1, d2, d3⟩, d4, d5, d6, d7⟩ := box8 h.box
  have hbn : b < n := Nat.lt_of_lt_of_le hb h.le
  have hbi : (b : Int) < (n : Int) := by omega
  have hn4 := h.n4.2
  have dq := int_cell h.row (i := b) (by rw [kint_len h.le]; exact hbn)
  rw [kint_lt hb] at dq
  obtain ⟨k0, k1⟩ := isCls_iff.1 (h.cls b hb)
  obtain ⟨k, hk⟩ : ∃ k, ks.getD b 0 = k := ⟨_, rfl⟩
  rw [hk] at dq k0 k1 ⊢
  clear h hk d0 d1 d2 d3 d4 d5 d6
  have hne : ((k + 1 : Int) == 0) = false := by simp; omega
  go_enter Tryz.func163, Tryz.ntmps163
  go_wp2
  go_ret2
  exact ⟨rfl, rfl⟩
theorem slices_Index (xs : List Int) (cap : Nat) (v : Int) (m : Nat) (h : RowAt w q 3 cap (xs.map (.int .i64))) (hl : xs.length ≤ 4096) (hm : m ≤ xs.length) (h1 : ∀ i, i < m → xs.getD i 0 ≠ v) (h2 : m < xs.length → xs.getD m 0 = v) :
    Calls Tryz.prog 182 #[.slice (some ⟨q, 0, none⟩) xs.length cap, .int .i64 v] w fun e w' => e = .returned (.int .i64 (if m < xs.length then (m : Int) else -1)) ∧ Touch nob w w' := by
  obtain ⟨n, hn⟩ : ∃ n, xs.length = n := ⟨_, rfl⟩
  rw [hn] at hl hm ⊢
  have hcap : n ≤ cap := by obtain ⟨_, _, _, hc, _⟩ := id h; rw [List.length_map, hn] at hc; exact hc
  have H := Lib.hid (And.intro h (And.intro h1 (And.intro h2 hn)))
  clear h h1 h2 hn
  go_enter Tryz.func182, Tryz.ntmps182
  go_wp2_with fail
  go_loopw [8] (fun i wr => ∃ k : Nat, i = .int .i64 k ∧ k ≤ m ∧ wr = w) (fun i _ => n - (intOf i).toNat)
  case atStart => exact ⟨0, rfl, Nat.zero_le _, rfl⟩
  case round =>
    obtain ⟨k, rfl, hk, rfl⟩ := hrel
    by_cases hkn : k < n
    · have dq := int_cell H.out.1 (i := k) (by rw [H.out.2.2.2]; exact hkn)
      have hb : (k : Int) < (n : Int) := by omega
      by_cases hkm : k = m
      · subst hkm
        rw [H.out.2.2.1 (by rw [H.out.2.2.2]; exact hkn)] at dq
        go_wp2
        go_ret
        exact ⟨rfl, Touch.refl _ _⟩
      · have hne := H.out.2.1 k (by omega)
        obtain ⟨x, hx⟩ : ∃ x, xs.getD k 0 = x := ⟨_, rfl⟩
        rw [hx] at dq hne
        have hne' : (v == x) = false := by simpa using fun e => hne e.symm
        clear hne hx
        go_wp2
        go_roundw
        case rel => exact ⟨k + 1, by go_num, by omega, trivial⟩
        case measure => simp [intOf]; omega
    · have : ¬ (k : Int) < (n : Int) := by omega
      go_wp2
      go_ret
      exact ⟨rfl, Touch.refl _ _⟩
end Go.Proofs.YtnobempbcdkoaaaGreatDoor
namespace Go.Proofs.YtnobempbcdkoaaaGreatDoor
open Go.RowKit

variable {w : World} {p q cap n : Nat} {c : Cf} {ks : List Int}
theorem clone_int (q cap : Nat) (ws : List Int) (w : World) (h : RowAt w q 3 cap (ws.map (.int .i64))) (h2 : ws.length ≤ 1048576) :
    Calls Tryz.prog 98 #[.slice (some ⟨q, 0, none⟩) ws.length cap] w fun e w' => ∃ g cap', e = .returned (.slice (some ⟨g, 0, none⟩) ws.length cap') ∧ Touch nob w w' ∧ w.heap.size ≤ g ∧ RowAt w' g 3 cap' (ws.map (.int .i64)) := by
  obtain ⟨i0, hi, hz0, hz1, hz2⟩ := info_parts info_int2
  have hq := h.lt
  have HC := Lib.hid (fun j u (hj : (ws.map (Value.int .i64))[j]? = some u) => show w.cell? ⟨q, j, none⟩ = some u by
    obtain ⟨hl, rfl⟩ := List.getElem?_eq_some_iff.1 hj
    exact h.cell hl)
  clear h
  have hsn : ∀ (a : Addr) (l c : Nat) (w : World), (binOp .eql 28 (.slice (some a) l c) (.slice none 0 0)).run Tryz.prog w = .ok (.bool false) w := fun _ _ _ _ => by kernel_rfl
  by_cases h1 : 1 ≤ ws.length
  · go_enter Tryz.func98, Tryz.ntmps98
    go_wp2_with (at_builtin; refine wpList_append_grows _ rfl (.tmp 5) (.tmp 6) 28 rfl 3 i0 (.int .i64 0) 1 8 Tryz.underlying28 hi hz0 hz1 hz2 rfl (by decide) _ 0 0 [] rfl (by intro h; exact ⟨rfl, rfl⟩) rfl (by intro _ _ j u hj; simp at hj) ⟨q, 0, none⟩ ws.length cap (ws.map (.int .i64)) rfl (by simp) ?c1 (ints_oneCell _ _) (by omega) (by unfold maxLen; omega) (by omega) ?_; rotate_right; intro v1 w1 hown hgrow; have HX := Lib.hid (And.intro hown hgrow); clear hown hgrow)
    case c1 =>
      intro j u hj
      have h0 := HC.out j u hj
      rw [Addr.add_lit, Nat.zero_add]
      exact (World.cell?_of_block (a := ⟨q, j, none⟩) (Below.heap_alloc _ _ _ hq)).trans h0
    go_ret
    obtain ⟨hown, hgrow⟩ := HX.out
    simp only [Nat.zero_add, List.nil_append] at hown
    obtain ⟨g, cap', rfl, hg, hr, _⟩ := RowAt.of_owns_some hown (by omega)
    exact ⟨g, cap', rfl, Touch.grown ((Touch.refl nob w).alloc _) hgrow (fun _ h => by cases h), by rw [World.size_alloc] at hg; omega, hr⟩
  · obtain rfl : ws = [] := by cases ws <;> simp_all
    go_enter Tryz.func98, Tryz.ntmps98
    go_wp2_with fail
    go_ret
    exact ⟨w.heap.size, 0, rfl, (Touch.refl nob w).alloc _, Nat.le_refl _, ⟨#[], World.alloc_heap_new w _, rfl, Nat.le_refl _, rfl⟩⟩
theorem blk_Assign_arg (k : Int) (_ : BlkAt w p q cap n c ks) (hk : isCls k = false) :
    Calls Tryz.prog 172 #[.pointer (some ⟨p, 0, none⟩), .int .i64 k] w fun e w' => e = .returned (.tuple #[.int .i64 0, .int .i64 1]) ∧ w = w' := by
  go_enter Tryz.func172, Tryz.ntmps172
  go_wp2_with (go_at_call 175; fail)
  refine (class_Is k w).mono ?_
  rintro e w' ⟨rfl, rfl⟩
  rw [hk]
  go_wp2
  go_ret2
  exact ⟨rfl, rfl⟩
theorem blk_Assign_full (k : Int) (h : BlkAt w p q cap n c ks) (hk : isCls k = true) (hf : ks.length = n) :
    Calls Tryz.prog 172 #[.pointer (some ⟨p, 0, none⟩), .int .i64 k] w fun e w' => e = .returned (.tuple #[.int .i64 0, .int .i64 10]) ∧ Touch nob w w' := by
  obtain ⟨⟨d0, d1, d2, d3⟩, d4, d5, d6, d7⟩ := box8 h.box
  have hx := slices_Index (q := q) (w := w) (kint ks n) cap 0 n h.row (by rw [kint_len h.le]; exact h.n4.2) (by rw [kint_len h.le]; exact Nat.le_refl _) (fun i hi => by
    rw [kint_lt (by omega)]
    have := (isCls_iff.1 (h.cls i (by omega))).1
    omega) (fun hh => by rw [kint_len h.le] at hh; omega)
  rw [kint_len h.le, if_neg (Nat.lt_irrefl n)] at hx
  have HX := Lib.hid hx
  clear h hx d0 d1 d2 d3 d4 d5 d6
  go_enter Tryz.func172, Tryz.ntmps172
  go_wp2_with (go_at_call 175; fail)
  refine (class_Is k w).mono ?_
  rintro e w' ⟨rfl, rfl⟩
  rw [hk]
  go_wp2_with (go_at_call 182; fail)
  refine HX.out.mono ?_
  rintro e w' ⟨rfl, hT⟩
  have HT := Lib.hid hT
  clear hT
  go_wp2
  go_ret2
  exact ⟨rfl, HT.out⟩
theorem blk_Assign_ok (k : Int) (h : BlkAt w p q cap n c ks) (hk : isCls k = true) (hf : ks.length < n) :
    Calls Tryz.prog 172 #[.pointer (some ⟨p, 0, none⟩), .int .i64 k] w fun e w' => e = .returned (.tuple #[.int .i64 ks.length, .int .i64 0]) ∧ Touch (fun j => j = q) w w' ∧ BlkAt w' p q cap n c (ks ++ [k]) := by
  obtain ⟨⟨d0, d1, d2, d3⟩, d4, d5, d6, d7⟩ := box8 h.box
  have hx := slices_Index (q := q) (w := w) (kint ks n) cap 0 ks.length h.row (by rw [kint_len h.le]; exact h.n4.2) (by rw [kint_len h.le]; exact h.le) (fun i hi => by
    rw [kint_lt hi]
    have := (isCls_iff.1 (h.cls i hi)).1
    omega) (fun _ => kint_ge (Nat.le_refl _))
  rw [kint_len h.le, if_pos hf] at hx
  have HX := Lib.hid hx
  have H := Lib.hid h
  have hn4 := h.n4.2
  obtain ⟨m, hm⟩ : ∃ m, ks.length = m := ⟨_, rfl⟩
  rw [hm] at hf HX ⊢
  have HM := Lib.hid hm
  have hb : (m : Int) < (n : Int) := by omega
  obtain ⟨k0, k1⟩ := isCls_iff.1 hk
  clear h hx d0 d1 d2 d3 d4 d5 d6 hm
  go_enter Tryz.func172, Tryz.ntmps172
  go_wp2_with (go_at_call 175; fail)
  refine (class_Is k w).mono ?_
  rintro e w' ⟨rfl, rfl⟩
  rw [hk]
  go_wp2_with (go_at_call 182; fail)
  refine HX.out.mono ?_
  rintro e w1 ⟨rfl, hT⟩
  have h1 := H.out.old hT
  obtain ⟨⟨_, _, _, _⟩, _, _, _, e7⟩ := box8 h1.box
  have dq := int_cell h1.row (i := m) (by rw [kint_len H.out.le]; omega)
  have fq := h1.row.free m
  have H1 := Lib.hid (And.intro hT h1)
  clear hT h1 d7
  go_wp2
  go_ret2
  obtain ⟨hT, h1⟩ := H1.out
  refine ⟨rfl, Touch.setCell (S := fun j => j = q) (hT.mono (fun _ _ x => x.elim)) (.inl rfl) _, ⟨(set_other _ h1.ne).trans h1.box, ?_, h1.ok, h1.hn, by rw [List.length_append, HM.out]; exact hf, fun j hj => ?_⟩⟩
  · rw [kint_snoc (by rw [HM.out]; exact hf), HM.out, List.map_set]
    exact h1.row.set _ _
  · rw [List.length_append] at hj
    simp only [List.length_cons, List.length_nil, Nat.zero_add] at hj
    by_cases hjm : j < ks.length
    · rw [getD_append_left hjm]; exact h1.cls j hjm
    · rw [show j = ks.length by omega, getD_snoc]; exact hk
theorem blk_Class_no (b : Int) (h : BlkAt w p q cap n c ks) (hb : b < 0 ∨ (ks.length : Int) ≤ b) :
    Calls Tryz.prog 163 #[.pointer (some ⟨p, 0, none⟩), .int .i64 b] w fun e w' => e = .returned (.tuple #[.int .i64 0, .bool false]) ∧ w = w' := by
  obtain ⟨⟨d0, d1, d2, d3⟩, d4, d5, d6, d7⟩ := box8 h.box
  have hn4 := h.n4.2
  by_cases hb0 : b < 0
  · clear h d0 d1 d2 d3 d4 d5 d6
    go_enter Tryz.func163, Tryz.ntmps163
    go_wp2
    go_ret2
    exact ⟨rfl, rfl⟩
  · obtain ⟨j, rfl⟩ := Int.eq_ofNat_of_zero_le (show 0 ≤ b by omega)
    by_cases hj : j < n
    · have dq := int_cell h.row (i := j) (by rw [kint_len h.le]; exact hj)
      rw [kint_ge (by omega)] at dq
      have hbi : (j : Int) < (n : Int) := by omega
      clear h d0 d1 d2 d3 d4 d5 d6 hb hb0
      go_enter Tryz.func163, Tryz.ntmps163
      go_wp2
      go_ret2
      exact ⟨rfl, rfl⟩
    · have hbi : (n : Int) ≤ (j : Int) := by omega
      clear h d0 d1 d2 d3 d4 d5 d6 hb hb0
      go_enter Tryz.func163, Tryz.ntmps163
      go_wp2
      go_ret2
      exact ⟨rfl, rfl⟩
end Go.Proofs.YtnobempbcdkoaaaGreatDoor
namespace Go.Proofs.YtnobempbcdkoaaaGreatDoor
open Go.RowKit

/-- The addresses of a block's slots. -/
def sl (c : Cf) (k b : Int) : List Int := slL c.c0 c.c1 c.c2 c.c3 c.c4 c.c5 c.c6 k b (List.range (perBlock c.c1 k).toNat)
/-- What stands there, if all is right. -/
theorem sl_eq {c : Cf} {k b : Int} (hc : c.ok = true) (hk : isCls k = true) (b0 : 0 ≤ b) (b1 : b < c.c0) : sl c k b = (List.range (perBlock c.c1 k).toNat).map fun (i : Nat) => plA c.c1 k b i 0 := by
  have hp : ∀ i : Nat, i < (perBlock c.c1 k).toNat → slA c.c0 c.c1 c.c2 c.c3 c.c4 c.c5 c.c6 k b i = plA c.c1 k b i 0 ∧ 0 < plA c.c1 k b i 0 := fun i hi => by
    have z0 := clsSize_lo hk
    have h := plOk_iff.2 ⟨hc, hk, ⟨b0, b1⟩, ⟨(by omega : (0 : Int) ≤ i), (by omega : (i : Int) < perBlock c.c1 k)⟩, Int.le_refl 0, (by omega : (0 : Int) < clsSize k)⟩
    obtain ⟨⟨m0, m1⟩, ⟨m2, m3⟩, m4⟩ := pl_bd h
    refine ⟨?_, by unfold plA; omega⟩
    unfold slA
    rw [h]
    rfl
  unfold sl slL
  rw [List.filter_eq_self.2]
  · apply List.map_congr_left
    intro i hi
    exact (hp i (List.mem_range.1 hi)).1
  · intro a ha
    obtain ⟨i, hi, rfl⟩ := List.mem_map.1 ha
    have := hp i (List.mem_range.1 hi)
    rw [this.1, decide_eq_true this.2]
theorem sl_no {c : Cf} {k b : Int} (h : c.ok = false ∨ isCls k = false ∨ b < 0 ∨ c.c0 ≤ b) : sl c k b = [] := by
  have hp : ∀ i : Nat, slA c.c0 c.c1 c.c2 c.c3 c.c4 c.c5 c.c6 k b i = 0 := fun i => by
    have : plOk c.c0 c.c1 c.c2 c.c3 c.c4 c.c5 c.c6 k b i 0 = false := by
      cases hh : plOk c.c0 c.c1 c.c2 c.c3 c.c4 c.c5 c.c6 k b i 0
      · rfl
      · obtain ⟨h1, h2, ⟨h3, h4⟩, _⟩ := plOk_iff.1 hh
        rcases h with h | h | h | h
        · rw [show c.ok = true from h1] at h; cases h
        · rw [h2] at h; cases h
        · omega
        · omega
    unfold slA
    rw [this]
    rfl
  unfold sl slL
  rw [List.filter_eq_nil_iff]
  intro a ha
  obtain ⟨i, _, rfl⟩ := List.mem_map.1 ha
  rw [hp]
  simp
theorem sl_len {c : Cf} {k b : Int} (hc : c.ok = true) (hk : isCls k = true) (b0 : 0 ≤ b) (b1 : b < c.c0) : (sl c k b).length = (perBlock c.c1 k).toNat := by rw [sl_eq hc hk b0 b1]; simp
theorem per_cls {c : Cf} {k : Int} (hc : c.ok = true) (hk : isCls k = true) : 1 ≤ perBlock c.c1 k ∧ perBlock c.c1 k ≤ 128 := by
  obtain ⟨_, ⟨u1, v1⟩, _⟩ := cfgOk_iff.1 hc
  obtain ⟨p0, p1, _, _⟩ := per_facts c.c1 k hk u1 v1
  exact ⟨p0, p1⟩
theorem sl_le {c : Cf} {k b : Int} : (sl c k b).length ≤ 128 := by
  by_cases hk : isCls k = true
  · by_cases hc : c.ok = true
    · have h1 := (per_cls hc hk).2
      have h2 := slL_len (c0 := c.c0) (c1 := c.c1) (c2 := c.c2) (c3 := c.c3) (c4 := c.c4) (c5 := c.c5) (c6 := c.c6) (k := k) (b := b) (l := List.range (perBlock c.c1 k).toNat)
      rw [List.length_range] at h2
      unfold sl
      omega
    · rw [sl_no (.inl (by simpa using hc))]; simp
  · rw [sl_no (.inr (.inl (by simpa using hk)))]; simp
/-- Whether an address is a slot's of a block that is assigned. -/
def ownB (c : Cf) (ks : List Int) (a : Int) : Bool :=
  blkOk c.c0 c.c1 c.c2 c.c3 c.c4 c.c5 c.c6 a && (decide (((a - 1) / c.c1).toNat < ks.length) && (fdOk c.c0 c.c1 c.c2 c.c3 c.c4 c.c5 c.c6 (ks.getD ((a - 1) / c.c1).toNat 0) a && decide ((a - 1 - (a - 1) / c.c1 * c.c1) % clsSize (ks.getD ((a - 1) / c.c1).toNat 0) = 0)))
theorem own_of_mem {c : Cf} {ks : List Int} {b : Nat} {a : Int} (hc : c.ok = true) (hb : b < ks.length) (hk : isCls (ks.getD b 0) = true) (hb1 : (b : Int) < c.c0) (h : a ∈ sl c (ks.getD b 0) b) : ownB c ks a = true ∧ (a - 1) / c.c1 = b := by
  rw [sl_eq hc hk (by omega) hb1] at h
  obtain ⟨i, hi, rfl⟩ := List.mem_map.1 h
  have hi := List.mem_range.1 hi
  obtain ⟨k, hke⟩ : ∃ k, ks.getD b 0 = k := ⟨_, rfl⟩
  rw [hke] at hk hi ⊢
  have z0 := clsSize_lo hk
  have hp := plOk_iff.2 ⟨hc, hk, ⟨(by omega : (0 : Int) ≤ b), hb1⟩, ⟨(by omega : (0 : Int) ≤ i), (by omega : (i : Int) < perBlock c.c1 k)⟩, Int.le_refl 0, (by omega : (0 : Int) < clsSize k)⟩
  obtain ⟨e1, e2, e3, e4⟩ := pl_where hp
  refine ⟨?_, e1⟩
  unfold ownB
  rw [e1, e4, show ((b : Int)).toNat = b by omega, hke, decide_eq_true hb, e3]
  have : fdOk c.c0 c.c1 c.c2 c.c3 c.c4 c.c5 c.c6 k (plA c.c1 k b i 0) = true := fdOk_iff.2 ⟨e4, hk, by rw [e1, e2]; omega⟩
  rw [this]
  rfl
theorem mem_of_own {c : Cf} {ks : List Int} {a : Int} (hc : c.ok = true) (h : ownB c ks a = true) : ∃ b : Nat, (a - 1) / c.c1 = b ∧ b < ks.length ∧ (b : Int) < c.c0 ∧ isCls (ks.getD b 0) = true ∧ a ∈ sl c (ks.getD b 0) b := by
  unfold ownB at h
  simp only [Bool.and_eq_true, decide_eq_true_eq] at h
  obtain ⟨h1, h2, h3, h4⟩ := h
  obtain ⟨_, a1, a2⟩ := blkOk_iff.1 h1
  obtain ⟨⟨u0, v0⟩, ⟨u1, v1⟩, _⟩ := cfgOk_iff.1 hc
  have q0 : 0 ≤ (a - 1) / c.c1 := Int.ediv_nonneg (by omega) (by omega)
  obtain ⟨b, hb⟩ := Int.eq_ofNat_of_zero_le q0
  have q1 : (a - 1) / c.c1 < c.c0 := Int.ediv_lt_of_lt_mul (by omega) (by omega)
  rw [hb] at h2 h3 h4 q1
  rw [show ((b : Int)).toNat = b by omega] at h2 h3 h4
  obtain ⟨k, hke⟩ : ∃ k, ks.getD b 0 = k := ⟨_, rfl⟩
  rw [hke] at h3 h4
  obtain ⟨_, hk, h5⟩ := fdOk_iff.1 h3
  rw [hb] at h5
  refine ⟨b, hb, h2, q1, by rw [hke]; exact hk, ?_⟩
  rw [hke, sl_eq hc hk (by omega) q1]
  have z0 := clsSize_lo hk
  obtain ⟨r, hr⟩ : ∃ r, a - 1 - (b : Int) * c.c1 = r := ⟨_, rfl⟩
  rw [hr] at h4 h5
  have hr0 : 0 ≤ r := by
    have := Int.ediv_mul_le (a - 1) (show c.c1 ≠ 0 by omega)
    rw [hb] at this
    omega
  obtain ⟨i, hi⟩ := Int.eq_ofNat_of_zero_le (Int.ediv_nonneg hr0 (show 0 ≤ clsSize k by omega))
  rw [hi] at h5
  refine List.mem_map.2 ⟨i, List.mem_range.2 (by omega), ?_⟩
  have h6 := Int.mul_ediv_add_emod r (clsSize k)
  rw [h4, hi, Int.mul_comm] at h6
  unfold plA
  omega
/-- The slots of a block, if it is assigned. -/
def slAt (c : Cf) (ks : List Int) (m : Nat) : List Int := if m < ks.length then sl c (ks.getD m 0) m else []
/-- All slots of the first blocks that are assigned, one by one. -/
def allSl (c : Cf) (ks : List Int) : Nat → List Int
  | 0 => []
  | m + 1 => allSl c ks m ++ slAt c ks m
theorem slAt_le {c : Cf} {ks : List Int} {m : Nat} : (slAt c ks m).length ≤ 128 := by
  unfold slAt
  split
  · exact sl_le
  · simp
theorem allSl_le {c : Cf} {ks : List Int} : ∀ m, (allSl c ks m).length ≤ 128 * m
  | 0 => by simp [allSl]
  | m + 1 => by
    have h1 := allSl_le (c := c) (ks := ks) m
    have h2 := slAt_le (c := c) (ks := ks) (m := m)
    simp only [allSl, List.length_append]
    omega
theorem allSl_prefix {c : Cf} {ks : List Int} (m : Nat) : ∀ d, allSl c ks m <+: allSl c ks (m + d)
  | 0 => List.prefix_rfl
  | d + 1 => (allSl_prefix m d).trans (List.prefix_append _ _)
end Go.Proofs.YtnobempbcdkoaaaGreatDoor
namespace Go.Proofs.YtnobempbcdkoaaaGreatDoor
open Go.RowKit

theorem IntsIn.at {w : World} {v : Value} {xs : List Int} (h : IntsIn w v xs) {k : Nat} (hk : k < xs.length) : ∃ b o cap, v = .slice (some ⟨b, o, none⟩) xs.length cap ∧ xs.length ≤ cap ∧ w.cell? ⟨b, o + k, none⟩ = some (.int .i64 (xs.getD k 0)) := by
  obtain ⟨ao, cap, rfl, h | ⟨b, o, rfl, hc, h⟩⟩ := h
  · subst h; simp at hk
  · exact ⟨b, o, cap, rfl, hc, h k hk⟩
theorem IntsIn.shape {w : World} {v : Value} {xs : List Int} (h : IntsIn w v xs) : ∃ ao cap, v = .slice ao xs.length cap := by
  obtain ⟨ao, cap, rfl, _⟩ := h
  exact ⟨ao, cap, rfl⟩
end Go.Proofs.YtnobempbcdkoaaaGreatDoor
namespace Go.Proofs.YtnobempbcdkoaaaGreatDoor
open Go.RowKit

theorem ref01_Same (v1 v2 : Value) (xs : List Int) (w : World) (h1 : IntsIn w v1 xs) (h2 : IntsIn w v2 xs) (hn : xs.length ≤ 1048576) :
    Calls Tryz.prog 18 #[v1, v2] w fun e w' => e = .returned (.bool true) ∧ Touch nob w w' := by
  obtain ⟨ao1, c1, rfl, h1⟩ := h1
  obtain ⟨ao2, c2, rfl, h2⟩ := h2
  obtain ⟨n, hl⟩ : ∃ n, xs.length = n := ⟨_, rfl⟩
  have H1 := Lib.hid h1
  have H2 := Lib.hid h2
  rw [hl] at hn ⊢
  have HL := Lib.hid hl
  clear h1 h2 hl
  go_enter Tryz.func18, Tryz.ntmps18
  go_wp2_with fail
  go_loopw [5] (fun i wr => ∃ k : Nat, k ≤ n ∧ i = .int .i64 k ∧ Touch nob w wr) (fun i _ => n - (intOf i).toNat)
  case atStart => exact ⟨0, by omega, rfl, Touch.refl _ _⟩
  case round =>
    obtain ⟨k, hk, rfl, hT⟩ := hrel
    by_cases hlt : k < n
    · have hne : ¬ xs = [] := by intro h; have := HL.out; rw [h] at this; simp at this; omega
      obtain ⟨b1, o1, e1, cc1, q1⟩ := H1.out.resolve_left hne
      obtain ⟨b2, o2, e2, cc2, q2⟩ := H2.out.resolve_left hne
      subst e1 e2
      have z1 := q1 k (by rw [HL.out]; exact hlt)
      have z2 := q2 k (by rw [HL.out]; exact hlt)
      have y1 := (hT.cell (cell_lt z1) (fun x => x)).trans z1
      have y2 := (hT.cell (cell_lt z2) (fun x => x)).trans z2
      obtain ⟨y, hy⟩ : ∃ y, xs.getD k 0 = y := ⟨_, rfl⟩
      rw [hy] at y1 y2
      rw [HL.out] at cc1 cc2
      have hb : (k : Int) < (n : Int) := by omega
      clear q1 q2 z1 z2 hy hne
      go_wp2_with fail
      go_quiet (fail)
      go_wp2
      go_roundw
      case rel => exact ⟨k + 1, by omega, by go_num, hT.drewN _⟩
      case measure => simp [intOf]; omega
    · obtain rfl : k = n := by omega
      go_wp2
      go_ret
      exact ⟨rfl, hT⟩
end Go.Proofs.YtnobempbcdkoaaaGreatDoor
namespace Go.Proofs.YtnobempbcdkoaaaGreatDoor
open Go.RowKit

abbrev set7 (W : World) (b : Nat) (v0 v1 v2 v3 v4 v5 v6 : Value) : World := ((((((W.setCell ⟨b, 0, none⟩ v0).setCell ⟨b, 1, none⟩ v1).setCell ⟨b, 2, none⟩ v2).setCell ⟨b, 3, none⟩ v3).setCell ⟨b, 4, none⟩ v4).setCell ⟨b, 5, none⟩ v5).setCell ⟨b, 6, none⟩ v6
theorem set7_at (W : World) {b : Nat} {t : TypeId} {o0 o1 o2 o3 o4 o5 o6 : Value} (v0 v1 v2 v3 v4 v5 v6 : Value) (h : W.heap[b]? = some (Obj.cells #[o0, o1, o2, o3, o4, o5, o6] t)) : (set7 W b v0 v1 v2 v3 v4 v5 v6).heap[b]? = some (Obj.cells #[v0, v1, v2, v3, v4, v5, v6] t) := by
  have h6 := set_cells 6 v6 (set_cells 5 v5 (set_cells 4 v4 (set_cells 3 v3 (set_cells 2 v2 (set_cells 1 v1 (set_cells 0 v0 h))))))
  rw [show ((((((#[o0, o1, o2, o3, o4, o5, o6].setIfInBounds 0 v0).setIfInBounds 1 v1).setIfInBounds 2 v2).setIfInBounds 3 v3).setIfInBounds 4 v4).setIfInBounds 5 v5).setIfInBounds 6 v6 = #[v0, v1, v2, v3, v4, v5, v6] by simp] at h6
  exact h6
theorem set7_other (W : World) {b c : Nat} (v0 v1 v2 v3 v4 v5 v6 : Value) (h : c ≠ b) : (set7 W b v0 v1 v2 v3 v4 v5 v6).heap[c]? = W.heap[c]? :=
  (set_other _ h).trans ((set_other _ h).trans ((set_other _ h).trans ((set_other _ h).trans ((set_other _ h).trans ((set_other _ h).trans (set_other _ h))))))
theorem set7_touch {S : Nat → Prop} {w W : World} {b : Nat} (v0 v1 v2 v3 v4 v5 v6 : Value) (hb : w.heap.size ≤ b) (h : Touch S w W) : Touch S w (set7 W b v0 v1 v2 v3 v4 v5 v6) :=
  ((((((h.setCell (.inr hb) _).setCell (.inr hb) _).setCell (.inr hb) _).setCell (.inr hb) _).setCell (.inr hb) _).setCell (.inr hb) _).setCell (.inr hb) _
end Go.Proofs.YtnobempbcdkoaaaGreatDoor
namespace Go.Proofs.YtnobempbcdkoaaaGreatDoor
open Go.RowKit

abbrev bools (M : Nat → Bool) (n : Nat) : List Value := (List.range n).map fun k => Value.bool (M k)
theorem info_bool : (Tryz.prog.info? 4).map (fun i => (i.zero, i.size, i.bytes)) = some (some (.bool false), 1, 1) := by kernel_rfl
theorem made_bools (n : Nat) : (madeCells (Value.bool false).cells (n * 1)).toList = bools (fun _ => false) n := by
  apply List.ext_getElem?
  intro i
  simp only [madeCells, Nat.mul_one, Array.toList_map, Array.toList_range, List.getElem?_map]
  by_cases hi : i < n
  · simp [hi, Value.cells, Nat.mod_one]
  · simp [hi]
theorem bool_cell {w : World} {q size : Nat} {M : Nat → Bool} (h : RowAt w q 4 size (bools M size)) {i : Nat} (hi : i < size) : w.cell? ⟨q, i, none⟩ = some (.bool (M i)) := by
  rw [h.cell (j := i) (by simpa using hi)]
  simp

end Go.Proofs.YtnobempbcdkoaaaGreatDoor
namespace Go.Proofs.YtnobempbcdkoaaaGreatDoor
open Go.RowKit

/-- append, by a name that the walk does not open. -/
def Appd (ats : Array TypeId) (ty : TypeId) (args : Array Value) : Sem Value := Builtin.append_ ats ty args
theorem builtin_appd (ats : Array TypeId) (ty : TypeId) (cs : Array Bool) (args : Array Value) : builtin .append ats ty cs args = (do pure (.value (← Appd ats ty args))) := rfl
end Go.Proofs.YtnobempbcdkoaaaGreatDoor
namespace Go.Proofs.YtnobempbcdkoaaaGreatDoor

structure WRep (ws : List Nat) (size : Nat) (M : Nat → Bool) : Prop where
  len : ws.length = (size + 63) / 64
  lt : ∀ i, ws.getD i 0 < 18446744073709551616
  bit : ∀ n, (ws.getD (n / 64) 0).testBit (n % 64) = (decide (n < size) && M n)

theorem getD_beyond {ws : List Nat} {i : Nat} (h : ws.length ≤ i) : ws.getD i 0 = 0 := by
  rw [List.getD_eq_getElem?_getD, List.getElem?_eq_none h]; rfl
theorem getD_set' {ws : List Nat} {i j x : Nat} (hi : i < ws.length) : (ws.set i x).getD j 0 = if i = j then x else ws.getD j 0 := by
  rw [List.getD_eq_getElem?_getD, List.getD_eq_getElem?_getD, List.getElem?_set]
  by_cases hij : i = j
  · subst hij; simp [hi]
  · simp [hij]
theorem WRep.zero (size : Nat) : WRep (List.replicate ((size + 63) / 64) 0) size (fun _ => false) := by
  have h0 : ∀ i, (List.replicate ((size + 63) / 64) 0).getD i 0 = 0 := by
    intro i
    rw [List.getD_eq_getElem?_getD, List.getElem?_replicate]
    split <;> rfl
  exact ⟨by simp, fun i => by rw [h0]; omega, fun n => by rw [h0]; simp⟩
theorem WRep.has {ws : List Nat} {size n : Nat} {M : Nat → Bool} (h : WRep ws size M) (hn : n < size) : decide (ws.getD (n / 64) 0 / 2 ^ (n % 64) % 2 = 1) = M n := by
  have := h.bit n
  rw [Nat.testBit_eq_decide_div_mod_eq, decide_eq_true hn, Bool.true_and] at this
  exact this
theorem WRep.idx {ws : List Nat} {size n : Nat} {M : Nat → Bool} (h : WRep ws size M) (hn : n < size) : n / 64 < ws.length := by rw [h.len]; omega
theorem WRep.put {ws : List Nat} {size n : Nat} {M : Nat → Bool} {b : Bool} (h : WRep ws size M) (hn : n < size) (hb : M n ≠ b) : WRep (ws.set (n / 64) (ws.getD (n / 64) 0 ^^^ 2 ^ (n % 64))) size (fun k => if k = n then b else M k) := by
  have hi := h.idx hn
  have h2 : (2 : Nat) ^ (n % 64) < 2 ^ 64 := Nat.pow_lt_pow_right (by omega) (by omega)
  refine ⟨by rw [List.length_set]; exact h.len, fun i => ?_, fun k => ?_⟩
  · rw [getD_set' hi]
    split
    · exact Nat.xor_lt_two_pow (n := 64) (h.lt _) h2
    · exact h.lt i
  · rw [getD_set' hi]
    by_cases hk : n / 64 = k / 64
    · rw [if_pos hk, Nat.testBit_xor, Nat.testBit_two_pow]
      have h1 := h.bit k
      rw [← hk] at h1
      rw [h1]
      by_cases hkn : k = n
      · subst hkn
        rw [if_pos rfl, decide_eq_true hn]
        cases hm : M k <;> cases b <;> simp_all
      · have : n % 64 ≠ k % 64 := by omega
        rw [if_neg hkn, decide_eq_false this]; simp
    · rw [if_neg hk, h.bit k, if_neg (by rintro rfl; exact hk rfl)]
theorem WRep.eq {ws us : List Nat} {size : Nat} {M M' : Nat → Bool} (h : WRep ws size M) (g : WRep us size M') : ws = us ↔ ∀ n, n < size → M n = M' n := by
  constructor
  · rintro rfl n hn
    have h1 := h.bit n
    have h2 := g.bit n
    rw [h1] at h2
    simpa [hn] using h2
  · intro hh
    apply List.ext_getElem (by rw [h.len, g.len])
    intro i h1 h2
    have e1 : ws.getD i 0 = ws[i] := by simp [List.getD_eq_getElem?_getD, h1]
    have e2 : us.getD i 0 = us[i] := by simp [List.getD_eq_getElem?_getD, h2]
    rw [← e1, ← e2]
    apply Nat.eq_of_testBit_eq
    intro j
    by_cases hj : j < 64
    · have a := h.bit (i * 64 + j)
      have b := g.bit (i * 64 + j)
      rw [show (i * 64 + j) / 64 = i by omega, show (i * 64 + j) % 64 = j by omega] at a b
      rw [a, b]
      by_cases hs : i * 64 + j < size
      · rw [hh _ hs]
      · simp [hs]
    · have p : (18446744073709551616 : Nat) ≤ 2 ^ j := Nat.le_trans (by decide : (18446744073709551616 : Nat) ≤ 2 ^ 64) (Nat.pow_le_pow_right (by omega) (by omega))
      rw [Nat.testBit_lt_two_pow (Nat.lt_of_lt_of_le (h.lt i) p), Nat.testBit_lt_two_pow (Nat.lt_of_lt_of_le (g.lt i) p)]
end Go.Proofs.YtnobempbcdkoaaaGreatDoor
namespace Go.Proofs.YtnobempbcdkoaaaGreatDoor
open Go.RowKit

abbrev u64s (ws : List Nat) : List Value := ws.map fun (x : Nat) => Value.int .u64 (x : Int)
/-- A set: its box, its words, what it has. -/
structure SetAt (w : World) (p q cap : Nat) (ws : List Nat) (size : Nat) (M : Nat → Bool) : Prop where
  box : w.heap[p]? = some (.cells #[.slice (some ⟨q, 0, none⟩) ws.length cap, .int .i64 size] 162)
  row : RowAt w q 112 cap (u64s ws)
  rep : WRep ws size M
  le : size ≤ 2097152
theorem SetAt.ne {w : World} {p q cap : Nat} {ws : List Nat} {size : Nat} {M : Nat → Bool} (h : SetAt w p q cap ws size M) : p ≠ q := by
  rintro rfl
  obtain ⟨_, h1, _⟩ := h.row
  have := h.box.symm.trans h1
  simp at this
theorem SetAt.touch {S : Nat → Prop} {w w' : World} {p q cap : Nat} {ws : List Nat} {size : Nat} {M : Nat → Bool} (h : SetAt w p q cap ws size M) (ht : Touch S w w') (hp : ¬ S p) (hq : ¬ S q) : SetAt w' p q cap ws size M :=
  ⟨blk_touch h.box ht hp, h.row.touch ht hq, h.rep, h.le⟩

theorem made_u64s (n : Nat) : (madeCells (Value.int .u64 0).cells (n * 1)).toList = u64s (List.replicate n 0) := by
  apply List.ext_getElem?
  intro i
  simp only [madeCells, Nat.mul_one, Array.toList_map, Array.toList_range, List.getElem?_map]
  by_cases hi : i < n
  · simp [hi, Value.cells, Nat.mod_one]
  · simp [hi]

set_option maxRecDepth 20000 in
theorem bits_New_ok (n : Nat) (hn : n ≤ 2097152) (w : World) :
    Calls Tryz.prog 95 #[.int .i64 n] w fun e w' => ∃ p q cap ws, e = .returned (.tuple #[.pointer (some ⟨p, 0, none⟩), .int .i64 0]) ∧ Touch nob w w' ∧ w.heap.size ≤ p ∧ w.heap.size ≤ q ∧ SetAt w' p q cap ws n (fun _ => false) := by
  obtain ⟨i0, hi, hz0, hz1, hz2⟩ := info_parts info_u64
  obtain ⟨m, hm⟩ : ∃ m, m = (n + 63) / 64 := ⟨_, rfl⟩
  have hml : m ≤ 32768 := by omega
  have HMM := Lib.hid hm
  clear hm
  go_enter Tryz.func95, Tryz.ntmps95
  go_wp2_with (at_make; refine wpList_make_full _ rfl _ _ 160 rfl w.heap.size 112 i0 (.int .u64 0) 1 Tryz.underlying160 hi hz0 hz1 .i64 .i64 _ _ m rfl rfl (by have := HMM.out; omega) (by have := HMM.out; omega) (by rw [hz2]; omega) (by unfold maxLen; omega) (Nat.le_refl _) ?_; intro w1 hown hgrow; have HX := Lib.hid (And.intro hown hgrow); clear hown hgrow)
  go_ret2
  obtain ⟨hown, hgrow⟩ := HX.out
  rw [made_u64s] at hown
  obtain ⟨hr, _, _⟩ := RowAt.of_owns hown
  have hT : Touch nob w w1 := (Touch.refl nob w).grown hgrow (fun _ h => by cases h)
  refine ⟨w1.heap.size, w.heap.size, m, List.replicate m 0, rfl, hT.alloc _, hgrow.size, Nat.le_refl _, ⟨(World.alloc_heap_new w1 _).trans (by rw [List.length_replicate]), hr.touch ((Touch.refl nob _).alloc _) (fun x => x), by rw [HMM.out]; exact WRep.zero n, hn⟩⟩
theorem bits_New_no (n : Int) (hn : n < 0 ∨ 2097152 < n) (w : World) :
    Calls Tryz.prog 95 #[.int .i64 n] w fun e w' => e = .returned (.tuple #[.pointer none, .int .i64 4]) ∧ w = w' := by
  rcases hn with h | h
  all_goals
    go_enter Tryz.func95, Tryz.ntmps95
    go_wp2
    go_ret2
    exact ⟨rfl, rfl⟩

variable {w : World} {p q cap : Nat} {ws : List Nat} {size : Nat} {M : Nat → Bool}
theorem set_Size (h : SetAt w p q cap ws size M) :
    Calls Tryz.prog 142 #[.pointer (some ⟨p, 0, none⟩)] w fun e w' => e = .returned (.int .i64 size) ∧ w = w' := by
  obtain ⟨d0, d1, e0, e1⟩ := box2 h.box
  clear h
  go_enter Tryz.func142, Tryz.ntmps142
  go_wp2
  go_ret
  exact ⟨rfl, rfl⟩
def mayB (size : Nat) (n : Int) : Bool := decide (0 ≤ n) && decide (n < size)
theorem set_may (n : Int) (h : SetAt w p q cap ws size M) :
    Calls Tryz.prog 104 #[.pointer (some ⟨p, 0, none⟩), .int .i64 n] w fun e w' => e = .returned (.bool (mayB size n)) ∧ w = w' := by
  have H := Lib.hid h
  clear h
  by_cases hn : 0 ≤ n
  · go_enter Tryz.func104, Tryz.ntmps104
    go_wp2_with (go_at_call 142; refine (set_Size H.out).mono ?_; rintro e w' ⟨rfl, rfl⟩)
    go_ret
    exact ⟨ret_b (by unfold mayB; simp [hn]), rfl⟩
  · have hn' : n < 0 := by omega
    have hm : mayB size n = false := by unfold mayB; rw [decide_eq_false hn]; rfl
    have HM := Lib.hid hm
    clear hm
    go_enter Tryz.func104, Tryz.ntmps104
    go_wp2_with (go_at_call 142; refine (set_Size H.out).mono ?_; rintro e w' ⟨rfl, rfl⟩)
    go_ret
    exact ⟨ret_b (by rw [HM.out]), rfl⟩
theorem set_Has_no (n : Int) (h : SetAt w p q cap ws size M) (hn : mayB size n = false) :
    Calls Tryz.prog 55 #[.pointer (some ⟨p, 0, none⟩), .int .i64 n] w fun e w' => e = .returned (.bool false) ∧ w = w' := by
  go_enter Tryz.func55, Tryz.ntmps55
  go_wp2_with (go_at_call 104; fail)
  refine (set_may n h).mono ?_
  rintro e w' ⟨rfl, rfl⟩
  rw [hn]
  go_wp2
  go_ret
  exact ⟨rfl, rfl⟩
theorem u64_cell {w : World} {q cap : Nat} {ws : List Nat} (h : RowAt w q 112 cap (u64s ws)) {i : Nat} (hi : i < ws.length) : w.cell? ⟨q, i, none⟩ = some (.int .u64 ((ws.getD i 0 : Nat) : Int)) := by
  rw [h.cell (j := i) (by simpa using hi)]
  simp [List.getD_eq_getElem?_getD, hi]
theorem and_one_u64 (X : Nat) (hX : X < 18446744073709551616) (j : Nat) : bits .and .u64 ((X : Int) / 2 ^ j) 1 = ((X / 2 ^ j % 2 : Nat) : Int) := by
  have h1 : (X : Int) / 2 ^ j = ((X / 2 ^ j : Nat) : Int) := by simp
  have h2 : X / 2 ^ j < 18446744073709551616 := Nat.lt_of_le_of_lt (Nat.div_le_self _ _) hX
  rw [h1]
  have := bits_and_u64_nat (X / 2 ^ j) 1 h2 (by omega)
  rw [show ((1 : Nat) : Int) = 1 from rfl] at this
  rw [this, Nat.and_one_is_mod]
theorem set_Has_ok (n : Nat) (h : SetAt w p q cap ws size M) (hn : n < size) :
    Calls Tryz.prog 55 #[.pointer (some ⟨p, 0, none⟩), .int .i64 n] w fun e w' => e = .returned (.bool (M n)) ∧ w = w' := by
  have hm : mayB size n = true := by unfold mayB; simp [hn]
  obtain ⟨d0, d1, e0, e1⟩ := box2 h.box
  have hi := h.rep.idx hn
  have dq := u64_cell h.row hi
  have hX := h.rep.lt (n / 64)
  have HB := Lib.hid (h.rep.has hn)
  have hle := h.le
  obtain ⟨_, _, _, hcap, _⟩ := id h.row
  rw [List.length_map] at hcap
  go_enter Tryz.func55, Tryz.ntmps55
  go_wp2_with (go_at_call 104; fail)
  refine (set_may n h).mono ?_
  rintro e w' ⟨rfl, rfl⟩
  rw [hm]
  clear h hm
  obtain ⟨X, hX0⟩ : ∃ X, ws.getD (n / 64) 0 = X := ⟨_, rfl⟩
  rw [hX0] at dq hX HB
  clear hX0
  have hb : (n : Int) / 64 < (ws.length : Int) := by omega
  go_wp2
  go_ret
  exact ⟨ret_b (by rw [and_one_u64 X hX, ← HB.out]; rcases Nat.mod_two_eq_zero_or_one (X / 2 ^ (n % 64)) with h | h <;> simp [h]), rfl⟩
end Go.Proofs.YtnobempbcdkoaaaGreatDoor
namespace Go.Proofs.YtnobempbcdkoaaaGreatDoor
open Go.RowKit

variable {w : World} {p q cap : Nat} {ws : List Nat} {size : Nat} {M : Nat → Bool}
theorem set_Put_out (n : Int) (b : Bool) (h : SetAt w p q cap ws size M) (hn : mayB size n = false) :
    Calls Tryz.prog 99 #[.pointer (some ⟨p, 0, none⟩), .int .i64 n, .bool b] w fun e w' => e = .returned (.bool false) ∧ w = w' := by
  go_enter Tryz.func99, Tryz.ntmps99
  go_wp2_with (go_at_call 104; fail)
  refine (set_may n h).mono ?_
  rintro e w' ⟨rfl, rfl⟩
  rw [hn]
  go_wp2
  go_ret
  exact ⟨rfl, rfl⟩
theorem set_Put_same (n : Nat) (b : Bool) (h : SetAt w p q cap ws size M) (hn : n < size) (hb : M n = b) :
    Calls Tryz.prog 99 #[.pointer (some ⟨p, 0, none⟩), .int .i64 n, .bool b] w fun e w' => e = .returned (.bool false) ∧ w = w' := by
  have hm : mayB size n = true := by unfold mayB; simp [hn]
  go_enter Tryz.func99, Tryz.ntmps99
  go_wp2_with (go_at_call 104; fail)
  refine (set_may n h).mono ?_
  rintro e w' ⟨rfl, rfl⟩
  rw [hm]
  go_wp2_with (go_at_call 55; fail)
  refine (set_Has_ok n h hn).mono ?_
  rintro e w' ⟨rfl, rfl⟩
  rw [hb]
  clear h
  cases b
  all_goals
    go_wp2
    go_ret
    exact ⟨rfl, rfl⟩
theorem xor_u64 (X : Nat) (hX : X < 18446744073709551616) (j : Nat) (hj : j < 64) : bits .xor .u64 (X : Int) (2 ^ j) = ((X ^^^ 2 ^ j : Nat) : Int) := by
  have h2 : (2 : Nat) ^ j < 18446744073709551616 := Nat.lt_of_lt_of_le (Nat.pow_lt_pow_right (by omega) hj) (by decide)
  have := bits_xor_u64_nat X (2 ^ j) hX h2
  rw [← this]; simp
set_option maxHeartbeats 1000000 in
theorem set_Put_ok (n : Nat) (b : Bool) (h : SetAt w p q cap ws size M) (hn : n < size) (hb : M n ≠ b) :
    Calls Tryz.prog 99 #[.pointer (some ⟨p, 0, none⟩), .int .i64 n, .bool b] w fun e w' => e = .returned (.bool true) ∧ Touch (fun k => k = q) w w' ∧ SetAt w' p q cap (ws.set (n / 64) (ws.getD (n / 64) 0 ^^^ 2 ^ (n % 64))) size (fun k => if k = n then b else M k) := by
  have hm : mayB size n = true := by unfold mayB; simp [hn]
  obtain ⟨d0, d1, e0, e1⟩ := box2 h.box
  have hi := h.rep.idx hn
  have dq := u64_cell h.row hi
  have dqf := h.row.free (n / 64)
  have hX := h.rep.lt (n / 64)
  have hle := h.le
  have hne := h.ne
  obtain ⟨_, _, _, hcap, _⟩ := id h.row
  rw [List.length_map] at hcap
  have hMb : (M n == b) = false := by cases hx : M n <;> cases b <;> simp_all
  go_enter Tryz.func99, Tryz.ntmps99
  go_wp2_with (go_at_call 104; fail)
  refine (set_may n h).mono ?_
  rintro e w' ⟨rfl, rfl⟩
  rw [hm]
  go_wp2_with (go_at_call 55; fail)
  refine (set_Has_ok n h hn).mono ?_
  rintro e w' ⟨rfl, rfl⟩
  have H := Lib.hid h
  clear h hm
  obtain ⟨X, hX0⟩ : ∃ X, ws.getD (n / 64) 0 = X := ⟨_, rfl⟩
  rw [hX0] at dq hX
  have HX0 := Lib.hid hX0
  clear hX0
  have hbb : (n : Int) / 64 < (ws.length : Int) := by omega
  go_wp2_with fail
  go_region
  have hj : n % 64 < 64 := Nat.mod_lt _ (by omega)
  have hv : bits .xor .u64 (X : Int) (IntKind.u64.wrap (2 ^ (n % 64))) = ((X ^^^ 2 ^ (n % 64) : Nat) : Int) := by
    have h2 : (2 : Nat) ^ (n % 64) < 18446744073709551616 := Nat.lt_of_lt_of_le (Nat.pow_lt_pow_right (by omega) hj) (by decide)
    have h3 : IntKind.u64.wrap ((2 : Int) ^ (n % 64)) = 2 ^ (n % 64) := by
      rw [IntKind.wrap_u64]
      have h4 : ((2 : Int) ^ (n % 64)) = ((2 ^ (n % 64) : Nat) : Int) := by simp
      rw [h4]
      exact Int.emod_eq_of_lt (Int.natCast_nonneg _) (Int.ofNat_lt.2 h2)
    rw [h3]
    exact xor_u64 X hX _ hj
  rw [hv]
  have HV := Lib.hid hv
  clear hv dq dqf d0 d1 e0 e1
  go_wp2
  go_ret
  rw [HX0.out]
  refine ⟨rfl, Touch.drew (Touch.setCell (S := fun k => k = q) (Touch.refl _ _) (.inl rfl) _), ?_, ?_, ?_, H.out.le⟩
  · rw [List.length_set]; exact (set_other _ hne).trans H.out.box
  · rw [show u64s (ws.set (n / 64) (X ^^^ 2 ^ (n % 64))) = (u64s ws).set (n / 64) (.int .u64 ((X ^^^ 2 ^ (n % 64) : Nat) : Int)) from List.map_set ..]
    exact H.out.row.set _ _
  · have := H.out.rep.put hn hb
    rwa [HX0.out] at this
end Go.Proofs.YtnobempbcdkoaaaGreatDoor
namespace Go.Proofs.YtnobempbcdkoaaaGreatDoor
open Go.RowKit

variable {w : World} {p q cap : Nat} {ws : List Nat} {size : Nat} {M : Nat → Bool}
def hasB (M : Nat → Bool) (size : Nat) (n : Int) : Bool := mayB size n && M n.toNat
def putB (M : Nat → Bool) (size : Nat) (n : Int) (b : Bool) : Bool := mayB size n && (M n.toNat != b)
def putM (M : Nat → Bool) (size : Nat) (n : Int) (b : Bool) : Nat → Bool := fun k => if mayB size n = true ∧ k = n.toNat then b else M k
theorem may_nat {size : Nat} {n : Int} (h : mayB size n = true) : ∃ k : Nat, n = k ∧ k < size := by
  unfold mayB at h
  simp only [Bool.and_eq_true, decide_eq_true_eq] at h
  exact ⟨n.toNat, by omega, by omega⟩
theorem set_Has (n : Int) (h : SetAt w p q cap ws size M) :
    Calls Tryz.prog 55 #[.pointer (some ⟨p, 0, none⟩), .int .i64 n] w fun e w' => e = .returned (.bool (hasB M size n)) ∧ w = w' := by
  cases hm : mayB size n
  · refine (set_Has_no n h hm).mono fun e w' g => ⟨?_, g.2⟩
    rw [g.1]; unfold hasB; rw [hm]; rfl
  · obtain ⟨k, rfl, hk⟩ := may_nat hm
    refine (set_Has_ok k h hk).mono fun e w' g => ⟨?_, g.2⟩
    rw [g.1]; unfold hasB; rw [hm]; rfl
theorem set_Put (n : Int) (b : Bool) (h : SetAt w p q cap ws size M) :
    Calls Tryz.prog 99 #[.pointer (some ⟨p, 0, none⟩), .int .i64 n, .bool b] w fun e w' => ∃ ws', e = .returned (.bool (putB M size n b)) ∧ Touch (fun k => k = q) w w' ∧ SetAt w' p q cap ws' size (putM M size n b) := by
  cases hm : mayB size n
  · refine (set_Put_out n b h hm).mono fun e w' g => ⟨ws, ?_, ?_, ?_⟩
    · rw [g.1]; unfold putB; rw [hm]; rfl
    · rw [← g.2]; exact Touch.refl _ _
    · rw [← g.2, show putM M size n b = M from funext fun k => by unfold putM; rw [if_neg (by rw [hm]; simp)]]; exact h
  · obtain ⟨k, rfl, hk⟩ := may_nat hm
    by_cases hb : M k = b
    · refine (set_Put_same k b h hk hb).mono fun e w' g => ⟨ws, ?_, ?_, ?_⟩
      · rw [g.1]; unfold putB; rw [hm]; simp [hb]
      · rw [← g.2]; exact Touch.refl _ _
      · rw [← g.2, show putM M size k b = M from funext fun j => by
          unfold putM
          split
          · rename_i hh
            rw [hh.2, ← hb]; rfl
          · rfl]; exact h
    · refine (set_Put_ok k b h hk hb).mono fun e w' g => ⟨ws.set (k / 64) (ws.getD (k / 64) 0 ^^^ 2 ^ (k % 64)), ?_, g.2.1, ?_⟩
      · rw [g.1]; unfold putB; rw [hm]; simp [hb]
      · have := g.2.2
        rwa [show (fun j => if j = k then b else M j) = putM M size k b from funext fun j => by unfold putM; rw [hm]; simp] at this
end Go.Proofs.YtnobempbcdkoaaaGreatDoor
namespace Go.Proofs.YtnobempbcdkoaaaGreatDoor
open Go.RowKit

variable {w : World} {p q cap p' q' cap' : Nat} {ws us : List Nat} {size size' : Nat} {M M' : Nat → Bool}
end Go.Proofs.YtnobempbcdkoaaaGreatDoor
namespace Go.Proofs.YtnobempbcdkoaaaGreatDoor
open Go.RowKit

variable {w : World} {p q cap p' q' cap' : Nat} {ws us : List Nat} {size size' : Nat} {M M' : Nat → Bool}
/-- Whether two sets are the same. -/
def sameB (ws us : List Nat) (size size' : Nat) : Bool := decide (size = size') && decide (ws = us)
theorem words_le (h : SetAt w p q cap ws size M) : ws.length ≤ 1048576 := by have := h.rep.len; have := h.le; omega
end Go.Proofs.YtnobempbcdkoaaaGreatDoor
namespace Go.Proofs.YtnobempbcdkoaaaGreatDoor
open Go.RowKit

variable {w : World} {p q cap : Nat} {ws : List Nat} {size : Nat} {M : Nat → Bool}
theorem u64s_int (l : List Nat) : u64s l = (l.map fun (x : Nat) => (x : Int)).map (Value.int .u64) := by simp [u64s]
theorem clone_u64 (q cap : Nat) (ws : List Int) (w : World) (h : RowAt w q 112 cap (ws.map (.int .u64))) (h2 : ws.length ≤ 1048576) :
    Calls Tryz.prog 140 #[.slice (some ⟨q, 0, none⟩) ws.length cap] w fun e w' => ∃ g cap', e = .returned (.slice (some ⟨g, 0, none⟩) ws.length cap') ∧ Touch nob w w' ∧ w.heap.size ≤ g ∧ RowAt w' g 112 cap' (ws.map (.int .u64)) := by
  obtain ⟨i0, hi, hz0, hz1, hz2⟩ := info_parts info_u64
  have hq := h.lt
  have HC := Lib.hid (fun j u (hj : (ws.map (Value.int .u64))[j]? = some u) => show w.cell? ⟨q, j, none⟩ = some u by
    obtain ⟨hl, rfl⟩ := List.getElem?_eq_some_iff.1 hj
    exact h.cell hl)
  clear h
  have hsn : ∀ (a : Addr) (l c : Nat) (w : World), (binOp .eql 160 (.slice (some a) l c) (.slice none 0 0)).run Tryz.prog w = .ok (.bool false) w := fun _ _ _ _ => by kernel_rfl
  by_cases h1 : 1 ≤ ws.length
  · go_enter Tryz.func140, Tryz.ntmps140
    go_wp2_with (at_builtin; refine wpList_append_grows _ rfl (.tmp 5) (.tmp 6) 160 rfl 112 i0 (.int .u64 0) 1 8 Tryz.underlying160 hi hz0 hz1 hz2 rfl (by decide) _ 0 0 [] rfl (by intro h; exact ⟨rfl, rfl⟩) rfl (by intro _ _ j u hj; simp at hj) ⟨q, 0, none⟩ ws.length cap (ws.map (.int .u64)) rfl (by simp) ?c1 (ints_oneCell _ _) (by omega) (by unfold maxLen; omega) (by omega) ?_; rotate_right; intro v1 w1 hown hgrow; have HX := Lib.hid (And.intro hown hgrow); clear hown hgrow)
    case c1 =>
      intro j u hj
      have h0 := HC.out j u hj
      rw [Addr.add_lit, Nat.zero_add]
      exact (World.cell?_of_block (a := ⟨q, j, none⟩) (Below.heap_alloc _ _ _ hq)).trans h0
    go_ret
    obtain ⟨hown, hgrow⟩ := HX.out
    simp only [Nat.zero_add, List.nil_append] at hown
    obtain ⟨g, cap', rfl, hg, hr, _⟩ := RowAt.of_owns_some hown (by omega)
    exact ⟨g, cap', rfl, Touch.grown ((Touch.refl nob w).alloc _) hgrow (fun _ h => by cases h), by rw [World.size_alloc] at hg; omega, hr⟩
  · obtain rfl : ws = [] := by cases ws <;> simp_all
    go_enter Tryz.func140, Tryz.ntmps140
    go_wp2_with fail
    go_ret
    exact ⟨w.heap.size, 0, rfl, (Touch.refl nob w).alloc _, Nat.le_refl _, ⟨#[], World.alloc_heap_new w _, rfl, Nat.le_refl _, rfl⟩⟩
theorem clone_words (h : RowAt w q 112 cap (u64s ws)) (h2 : ws.length ≤ 1048576) :
    Calls Tryz.prog 140 #[.slice (some ⟨q, 0, none⟩) ws.length cap] w fun e w' => ∃ g cap', e = .returned (.slice (some ⟨g, 0, none⟩) ws.length cap') ∧ Touch nob w w' ∧ w.heap.size ≤ g ∧ RowAt w' g 112 cap' (u64s ws) := by
  have := clone_u64 q cap (ws.map fun (x : Nat) => (x : Int)) w (by rw [← u64s_int]; exact h) (by rw [List.length_map]; exact h2)
  rwa [← u64s_int, List.length_map] at this

set_option maxHeartbeats 400000 in
theorem set_Copy (h : SetAt w p q cap ws size M) :
    Calls Tryz.prog 101 #[.pointer (some ⟨p, 0, none⟩)] w fun e w' => ∃ p' g cap', e = .returned (.pointer (some ⟨p', 0, none⟩)) ∧ Touch nob w w' ∧ w.heap.size ≤ p' ∧ w.heap.size ≤ g ∧ SetAt w' p' g cap' ws size M := by
  obtain ⟨d0, d1, e0, e1⟩ := box2 h.box
  have HH := Lib.hid (fun w' (ht : Touch nob w w') => h.touch ht (fun x => x) (fun x => x))
  have HC := Lib.hid (fun w' (ht : Touch nob w w') => show Touch nob w w' ∧ w'.cell? ⟨p, 0, none⟩ = some (.slice (some ⟨q, 0, none⟩) ws.length cap) ∧ w'.cell? ⟨p, 1, none⟩ = some (.int .i64 size) from
    have hb := box2 (h.touch ht (fun x => x) (fun x => x)).box
    ⟨ht, hb.1, hb.2.1⟩)
  clear h
  go_enter Tryz.func101, Tryz.ntmps101
  go_wp2_with fail
  go_region_held3 (fun w' => Touch nob w w' ∧ w'.cell? ⟨p, 0, none⟩ = some (.slice (some ⟨q, 0, none⟩) ws.length cap) ∧ w'.cell? ⟨p, 1, none⟩ = some (.int .i64 size)) (first | exact HC.out _ (by first | assumption | (repeat (first | with_reducible exact Touch.refl _ _ | with_reducible assumption | with_reducible apply Touch.alloc | with_reducible apply Touch.drewN | with_reducible apply Touch.drew | with_reducible refine Touch.setCell ?_ (.inr (by first | omega | (simp; done) | (simp; omega))) _)))) (first | (go_at_call 140; refine (clone_words (HH.out _ (by (repeat (first | with_reducible exact Touch.refl _ _ | with_reducible assumption | with_reducible apply Touch.alloc | with_reducible apply Touch.drewN | with_reducible apply Touch.drew | with_reducible refine Touch.setCell ?_ (.inr (by first | omega | (simp; done) | (simp; omega))) _)))).row (words_le (HH.out _ (by (repeat (first | with_reducible exact Touch.refl _ _ | with_reducible assumption | with_reducible apply Touch.alloc | with_reducible apply Touch.drewN | with_reducible apply Touch.drew | with_reducible refine Touch.setCell ?_ (.inr (by first | omega | (simp; done) | (simp; omega))) _)))))).mono ?_; rintro e w1 ⟨g, cap', rfl, h1, h2, h3⟩; have hT1 := Touch.trans (S := nob) (show Touch nob w _ by (repeat (first | with_reducible exact Touch.refl _ _ | with_reducible assumption | with_reducible apply Touch.alloc | with_reducible apply Touch.drewN | with_reducible apply Touch.drew | with_reducible refine Touch.setCell ?_ (.inr (by first | omega | (simp; done) | (simp; omega))) _))) h1))
  go_wp2
  go_ret
  have hS := HH.out w (Touch.refl _ _)
  exact ⟨w1.heap.size, g, cap', rfl, hT1.alloc _, h1.size, h2, ⟨World.alloc_heap_new w1 _, h3.touch ((Touch.refl nob _).alloc _) (fun x => x), hS.rep, hS.le⟩⟩
theorem set_Copy_nil (w : World) : Calls Tryz.prog 101 #[.pointer none] w fun e w' => e = .returned (.pointer none) ∧ w = w' := by
  go_enter Tryz.func101, Tryz.ntmps101
  go_wp2
  go_ret
  exact ⟨rfl, rfl⟩
end Go.Proofs.YtnobempbcdkoaaaGreatDoor
namespace Go.Proofs.YtnobempbcdkoaaaGreatDoor

/-- How many k < n there are with M k. -/
def cnt (M : Nat → Bool) : Nat → Nat
  | 0 => 0
  | n + 1 => cnt M n + (M n).toNat
theorem cnt_add (M : Nat → Bool) (a : Nat) : ∀ b, cnt M (a + b) = cnt M a + cnt (fun j => M (a + j)) b
  | 0 => rfl
  | b + 1 => by
    have := cnt_add M a b
    show cnt M (a + b) + (M (a + b)).toNat = cnt M a + (cnt _ b + (M (a + b)).toNat)
    omega
theorem cnt_congr {M M' : Nat → Bool} : ∀ {n : Nat}, (∀ k, k < n → M k = M' k) → cnt M n = cnt M' n
  | 0, _ => rfl
  | n + 1, h => by
    show cnt M n + _ = cnt M' n + _
    rw [cnt_congr (n := n) (fun k hk => h k (by omega)), h n (by omega)]
theorem cnt_le (M : Nat → Bool) : ∀ n, cnt M n ≤ n
  | 0 => Nat.le_refl _
  | n + 1 => by
    have := cnt_le M n
    show cnt M n + _ ≤ _
    cases M n <;> simp <;> omega
theorem cnt_none {M : Nat → Bool} : ∀ {n : Nat}, (∀ k, k < n → M k = false) → cnt M n = 0
  | 0, _ => rfl
  | n + 1, h => by
    show cnt M n + _ = 0
    rw [cnt_none (n := n) (fun k hk => h k (by omega)), h n (by omega)]; rfl

def mk (m : Nat) : Nat → Nat
  | 0 => 0
  | k + 1 => 256 * mk m k + m
def p1 (k x : Nat) : Nat := (x / 2 &&& mk 85 k) + (x &&& mk 85 k)
def p2 (k x : Nat) : Nat := (x / 4 &&& mk 51 k) + (x &&& mk 51 k)
def p3 (k x : Nat) : Nat := (x / 16 + x) &&& mk 15 k
def b1 (l : Nat) : Nat := (l / 2 &&& 85) + (l &&& 85)
def b2 (l : Nat) : Nat := (l / 4 &&& 51) + (l &&& 51)
def pop8 (l : Nat) : Nat := (b2 (b1 l) / 16 + b2 (b1 l)) % 16

theorem and_split (h l M m : Nat) (hl : l < 256) (hm : m < 256) : (256 * h + l) &&& (256 * M + m) = 256 * (h &&& M) + (l &&& m) := by
  have hlm : l &&& m < 2 ^ 8 := Nat.and_lt_two_pow _ (by omega)
  apply Nat.eq_of_testBit_eq
  intro j
  rw [Nat.testBit_and, show (256 : Nat) = 2 ^ 8 by rfl, Nat.testBit_two_pow_mul_add _ (by omega), Nat.testBit_two_pow_mul_add _ (by omega), Nat.testBit_two_pow_mul_add _ hlm]
  split
  · rw [Nat.testBit_and]
  · rw [Nat.testBit_and]
theorem b1_top : ∀ c : Fin 2, ∀ l : Fin 256, (128 * c.val + l.val / 2) &&& 85 = l.val / 2 &&& 85 := by decide +kernel
theorem b2_top : ∀ c : Fin 4, ∀ l : Fin 256, (64 * c.val + l.val / 4) &&& 51 = l.val / 4 &&& 51 := by decide +kernel
theorem b1_lt : ∀ l : Fin 256, b1 l.val < 256 := by decide +kernel
theorem b2_bd : ∀ l : Fin 256, b2 (b1 l.val) ≤ 68 ∧ b2 (b1 l.val) % 16 ≤ 4 ∧ pop8 l.val ≤ 8 := by decide +kernel
theorem pop8_cnt : ∀ l : Fin 256, pop8 l.val = cnt l.val.testBit 8 := by decide +kernel

theorem p1_split (k h l : Nat) (hl : l < 256) : p1 (k + 1) (256 * h + l) = 256 * p1 k h + b1 l := by
  have e : (256 * h + l) / 2 = 256 * (h / 2) + (128 * (h % 2) + l / 2) := by omega
  unfold p1
  show ((256 * h + l) / 2 &&& (256 * mk 85 k + 85)) + ((256 * h + l) &&& (256 * mk 85 k + 85)) = _
  rw [e, and_split _ _ _ _ (by omega) (by omega), and_split _ _ _ _ hl (by omega), b1_top ⟨h % 2, by omega⟩ ⟨l, hl⟩]
  unfold b1
  show 256 * _ + (l / 2 &&& 85) + _ = _
  omega
theorem p2_split (k h l : Nat) (hl : l < 256) : p2 (k + 1) (256 * h + l) = 256 * p2 k h + b2 l := by
  have e : (256 * h + l) / 4 = 256 * (h / 4) + (64 * (h % 4) + l / 4) := by omega
  unfold p2
  show ((256 * h + l) / 4 &&& (256 * mk 51 k + 51)) + ((256 * h + l) &&& (256 * mk 51 k + 51)) = _
  rw [e, and_split _ _ _ _ (by omega) (by omega), and_split _ _ _ _ hl (by omega), b2_top ⟨h % 4, by omega⟩ ⟨l, hl⟩]
  unfold b2
  show 256 * _ + (l / 4 &&& 51) + _ = _
  omega
theorem p3_split (k h l : Nat) (hl : l ≤ 68) (hh : h % 16 ≤ 4) : p3 (k + 1) (256 * h + l) = 256 * p3 k h + (l / 16 + l) % 16 := by
  have e : (256 * h + l) / 16 + (256 * h + l) = 256 * (h / 16 + h) + (16 * (h % 16) + l / 16 + l) := by omega
  unfold p3
  show ((256 * h + l) / 16 + (256 * h + l)) &&& (256 * mk 15 k + 15) = _
  rw [e, and_split _ _ _ _ (by omega) (by omega), Nat.and_two_pow_sub_one_eq_mod _ 4]
  omega
def ps : Nat → Nat → Nat
  | 0, _ => 0
  | k + 1, x => 256 * ps k (x / 256) + pop8 (x % 256)
theorem pp_low (k x : Nat) : p2 k (p1 k x) % 16 ≤ 4 := by
  cases k with
  | zero => simp [p2, mk]
  | succ k =>
    obtain ⟨h, l, hl, rfl⟩ : ∃ h l, l < 256 ∧ x = 256 * h + l := ⟨x / 256, x % 256, by omega, by omega⟩
    rw [p1_split _ _ _ hl, p2_split _ _ _ (b1_lt ⟨l, hl⟩)]
    have h2 : b2 (b1 l) % 16 ≤ 4 := (b2_bd ⟨l, hl⟩).2.1
    show (256 * _ + b2 (b1 l)) % 16 ≤ 4
    omega
theorem pp_eq : ∀ k x, p3 k (p2 k (p1 k x)) = ps k x
  | 0, x => by simp [p3, mk, ps]
  | k + 1, x => by
    have e : x = 256 * (x / 256) + x % 256 := by omega
    have h1 := b1_lt ⟨x % 256, by omega⟩
    have h2 := b2_bd ⟨x % 256, by omega⟩
    simp only at h1 h2
    show _ = 256 * ps k (x / 256) + pop8 (x % 256)
    rw [← pp_eq k (x / 256)]
    conv => lhs; rw [e]
    rw [p1_split _ _ _ (by omega), p2_split _ _ _ h1, p3_split _ _ _ h2.1 (pp_low k _)]
    rfl
theorem byte_cnt (x i : Nat) : pop8 (x / 256 ^ i % 256) = cnt (fun j => x.testBit (8 * i + j)) 8 := by
  rw [pop8_cnt ⟨x / 256 ^ i % 256, Nat.mod_lt _ (by omega)⟩]
  refine cnt_congr fun j hj => ?_
  show (x / 256 ^ i % 256).testBit j = _
  rw [show (256 : Nat) = 2 ^ 8 by rfl, Nat.testBit_mod_two_pow, decide_eq_true hj, Bool.true_and, ← Nat.pow_mul, Nat.testBit_div_two_pow]
  congr 1
  omega
/-- What OnesCount64 reckons. -/
def ones (x : Nat) : Nat := cnt x.testBit 64
theorem ones_le (x : Nat) : ones x ≤ 64 := cnt_le _ _
/-- A word by its bytes' counts, the least one ahead. -/
structure Horner (s : Nat) (c a : Nat → Nat) : Prop where
  at0 : a 0 = s
  step : ∀ i, i < 8 → a i = c i + 256 * a (i + 1)
  top : a 8 = 0
  le : ∀ i, c i ≤ 8
theorem ones_bytes (x : Nat) : ∃ c a, Horner (p3 8 (p2 8 (p1 8 x))) c a ∧ ones x = c 0 + c 1 + c 2 + c 3 + c 4 + c 5 + c 6 + c 7 := by
  refine ⟨fun i => pop8 (x / 256 ^ i % 256), fun i => ps (8 - i) (x / 256 ^ i), ⟨?_, ?_, rfl, fun i => (b2_bd ⟨x / 256 ^ i % 256, Nat.mod_lt _ (by omega)⟩).2.2⟩, ?_⟩
  · rw [pp_eq]; simp
  · intro i hi
    obtain ⟨k, hk⟩ : ∃ k, 8 - i = k + 1 := ⟨7 - i, by omega⟩
    have hk' : 8 - (i + 1) = k := by omega
    show ps (8 - i) _ = _ + 256 * ps (8 - (i + 1)) _
    rw [hk, hk', Nat.pow_succ, ← Nat.div_div_eq_div_mul]
    exact Nat.add_comm _ _
  · unfold ones
    simp only [byte_cnt]
    have h : ∀ i, cnt x.testBit (8 * i + 8) = cnt x.testBit (8 * i) + cnt (fun j => x.testBit (8 * i + j)) 8 := fun i => cnt_add _ _ _
    have h0 := h 0; have h1 := h 1; have h2 := h 2; have h3 := h 3; have h4 := h 4; have h5 := h 5; have h6 := h 6; have h7 := h 7
    simp only [Nat.reduceMul, Nat.reduceAdd] at h0 h1 h2 h3 h4 h5 h6 h7 ⊢
    have hz : cnt x.testBit 0 = 0 := rfl
    rw [h7, h6, h5, h4, h3, h2, h1, h0, hz]
    simp only [Nat.zero_add]
theorem ones_fold {s : Nat} {c a : Nat → Nat} (h : Horner s c a) :
    ∃ t u v, s + s / 256 = t ∧ t + t / 65536 = u ∧ u + u / 4294967296 = v ∧ v < 9223372036854775808 ∧ v % 128 = c 0 + c 1 + c 2 + c 3 + c 4 + c 5 + c 6 + c 7 := by
  have hs := h.at0
  have e0 := h.step 0 (by omega); have e1 := h.step 1 (by omega); have e2 := h.step 2 (by omega); have e3 := h.step 3 (by omega)
  have e4 := h.step 4 (by omega); have e5 := h.step 5 (by omega); have e6 := h.step 6 (by omega); have e7 := h.step 7 (by omega)
  have e8 := h.top
  have l0 := h.le 0; have l1 := h.le 1; have l2 := h.le 2; have l3 := h.le 3; have l4 := h.le 4; have l5 := h.le 5; have l6 := h.le 6; have l7 := h.le 7
  clear h
  simp only [Nat.reduceAdd] at e0 e1 e2 e3 e4 e5 e6 e7
  generalize a 0 = a0 at *; generalize a 1 = a1 at *; generalize a 2 = a2 at *; generalize a 3 = a3 at *; generalize a 4 = a4 at *
  generalize a 5 = a5 at *; generalize a 6 = a6 at *; generalize a 7 = a7 at *; generalize a 8 = a8 at *
  generalize c 0 = c0 at *; generalize c 1 = c1 at *; generalize c 2 = c2 at *; generalize c 3 = c3 at *
  generalize c 4 = c4 at *; generalize c 5 = c5 at *; generalize c 6 = c6 at *; generalize c 7 = c7 at *
  have s1 : s / 256 = a1 := by clear e1 e2 e3 e4 e5 e6 e7; omega
  have s2 : (a0 + a1) / 65536 = a2 + a3 := by
    have p0 : a0 = c0 + 256 * c1 + 65536 * a2 := by clear e2 e3 e4 e5 e6 e7; omega
    have p1 : a1 = c1 + 256 * c2 + 65536 * a3 := by clear e0 e3 e4 e5 e6 e7; omega
    clear e0 e1 e2 e3 e4 e5 e6 e7; omega
  have s3 : (a0 + a1 + (a2 + a3)) / 4294967296 = a4 + a5 + a6 + a7 := by
    have p0 : a0 = c0 + 256 * c1 + 65536 * c2 + 16777216 * c3 + 4294967296 * a4 := by clear e4 e5 e6 e7; omega
    have p1 : a1 = c1 + 256 * c2 + 65536 * c3 + 16777216 * c4 + 4294967296 * a5 := by clear e0 e5 e6 e7; omega
    have p2 : a2 = c2 + 256 * c3 + 65536 * c4 + 16777216 * c5 + 4294967296 * a6 := by clear e0 e1 e6 e7; omega
    have p3 : a3 = c3 + 256 * c4 + 65536 * c5 + 16777216 * c6 + 4294967296 * a7 := by clear e0 e1 e2 e7; omega
    clear e0 e1 e2 e3 e4 e5 e6 e7; omega
  have b6 : a6 ≤ 256 * 8 + 8 := by omega
  have b5 : a5 ≤ 256 * 2056 + 8 := by clear e6 e7; omega
  have b4 : a4 ≤ 256 * 526344 + 8 := by clear e6 e7 e5; omega
  have b3 : a3 ≤ 256 * 134744072 + 8 := by clear e6 e7 e5 e4; omega
  have b2 : a2 ≤ 256 * 34494482440 + 8 := by clear e6 e7 e5 e4 e3; omega
  have b1 : a1 ≤ 256 * 8830587504648 + 8 := by clear e6 e7 e5 e4 e3 e2; omega
  have b0 : a0 ≤ 256 * 2260630401189896 + 8 := by clear e6 e7 e5 e4 e3 e2 e1; omega
  refine ⟨_, _, _, rfl, rfl, rfl, ?_, ?_⟩
  · rw [s1, ← hs, s2, s3]; clear e0 e1 e2 e3 e4 e5 e6; omega
  · rw [s1, ← hs, s2, s3]
    have : a0 + a1 + (a2 + a3) + (a4 + a5 + a6 + a7) = (c0 + c1 + c2 + c3 + c4 + c5 + c6 + c7) + 128 * (2 * (a1 + a2 + a3 + a4 + a5 + a6 + a7 + a8)) := by clear b0 b1 b2 b3 b4 b5 b6; omega
    rw [this, Nat.add_mul_mod_self_left]
    clear e0 e1 e2 e3 e4 e5 e6 e7; omega
end Go.Proofs.YtnobempbcdkoaaaGreatDoor
namespace Go.Proofs.YtnobempbcdkoaaaGreatDoor
open Go.RowKit Go.Shelf

def r29 : Ren := ⟨fun _ => 141, fun n => if n = 0 then 0 else if n = 3 then 3 else if n = 4 then 4 else if n = 5 then 5 else if n = 22 then 112 else if n = 25 then 210 else 209, fun _ => 0⟩
set_option maxRecDepth 100000 in
theorem lays29 : Lays7.n29 Tryz.prog r29 where
  mixed := by kernel_rfl
  f29 := by kernel_rfl
  t0 := by kernel_rfl
  a0 := fun _ => rfl
  z0 := fun _ => rfl
  v0 := fun _ => rfl
  i0 := by kernel_rfl
  t3 := by kernel_rfl
  a3 := fun _ => rfl
  z3 := fun _ => rfl
  v3 := fun _ => rfl
  i3 := by kernel_rfl
  t4 := by kernel_rfl
  a4 := fun _ => rfl
  z4 := fun _ => rfl
  v4 := fun _ => rfl
  i4 := by kernel_rfl
  t5 := by kernel_rfl
  a5 := fun _ => rfl
  z5 := fun _ => rfl
  v5 := fun _ => rfl
  i5 := by kernel_rfl
  t22 := by kernel_rfl
  a22 := fun _ => rfl
  z22 := fun _ => rfl
  v22 := fun _ => rfl
  i22 := by kernel_rfl
  t25 := by kernel_rfl
  a25 := fun _ => rfl
  z25 := fun _ => rfl
  v25 := fun _ => rfl
  i25 := by kernel_rfl
  t54 := by kernel_rfl
  a54 := fun _ => rfl
  z54 := fun _ => rfl
  g1 := by kernel_rfl

/-- The library's table reads as laid. -/
def Tab (w : World) : Prop := TabAt 0 Lib.deBruijn64tab w
theorem gTab : Tryz.prog.globalNamed "math/bits.deBruijn64tab" = some 0 := by kernel_rfl
theorem tTab : (Tryz.prog.globals[0]?).map (·.type) = some 209 := by kernel_rfl
theorem tab_of_cells {w : World} (h : ∀ i, w.cell? ⟨0, i, none⟩ = (Lib.deBruijn64tab.map fun (x : Nat) => Value.int .u8 (x : Int))[i]?) : Tab w := fun j hj => by
  rw [h j, List.getElem?_map, List.getElem?_eq_getElem hj, List.getD_eq_getElem?_getD, List.getElem?_eq_getElem hj]
  rfl
theorem Tab.lt {w : World} (h : Tab w) : 0 < w.heap.size := by
  obtain ⟨o, ho, _⟩ := cells_of_cell (h 0 (by decide))
  exact (Array.getElem?_eq_some_iff.1 ho).1
theorem Tab.touch {S : Nat → Prop} {w w' : World} (h : Tab w) (ht : Touch S w w') (hs : ¬ S 0) : Tab w' :=
  fun j hj => (ht.cell h.lt hs).trans (h j hj)
theorem bits_tz64 (x : Nat) (hx : x < 18446744073709551616) (w : World) (hT : Tab w) :
    Calls Tryz.prog 141 #[.int .u64 x] w fun e w' => e = .returned (.int .i64 (Lib.ctz 64 x)) ∧ w = w' :=
  (Any7.bits_TrailingZeros64 lays29 x hx w (fun _ => hT)).mono fun _ _ h => ⟨h.1, h.2.symm⟩

/-- What Next finds. -/
def NextR (M : Nat → Bool) (size n : Nat) : Option Nat → Prop
  | some k => n ≤ k ∧ k < size ∧ M k = true ∧ ∀ j, n ≤ j → j < k → M j = false
  | none => ∀ j, n ≤ j → j < size → M j = false
theorem NextR.unique {M : Nat → Bool} {size n : Nat} : ∀ {o o' : Option Nat}, NextR M size n o → NextR M size n o' → o = o'
  | none, none, _, _ => rfl
  | none, some k, h, g => by have := h k g.1 g.2.1; rw [g.2.2.1] at this; cases this
  | some k, none, h, g => by have := g k h.1 h.2.1; rw [h.2.2.1] at this; cases this
  | some k, some j, h, g => by
    have hkj : ¬ k < j := fun hh => by have := g.2.2.2 k h.1 hh; rw [h.2.2.1] at this; cases this
    have hjk : ¬ j < k := fun hh => by have := h.2.2.2 j g.1 hh; rw [g.2.2.1] at this; cases this
    rw [show k = j by omega]
theorem WRep.left_none {ws : List Nat} {size n : Nat} {M : Nat → Bool} (h : WRep ws size M) (h0 : ws.getD (n / 64) 0 / 2 ^ (n % 64) = 0) (k : Nat) (hk : n ≤ k) (hk' : k < n + (64 - n % 64)) (hs : k < size) : M k = false := by
  have h1 := h.bit k
  rw [show k / 64 = n / 64 by omega, decide_eq_true hs, Bool.true_and] at h1
  rw [← h1]
  have h2 : (ws.getD (n / 64) 0 / 2 ^ (n % 64)).testBit (k - n) = false := by rw [h0]; simp
  rw [Nat.testBit_div_two_pow] at h2
  rw [show k % 64 = k - n + n % 64 by omega]
  first
    | exact h2
    | (rw [Nat.add_comm]; exact h2)
theorem WRep.left_some {ws : List Nat} {size n : Nat} {M : Nat → Bool} (h : WRep ws size M) (h0 : ws.getD (n / 64) 0 / 2 ^ (n % 64) ≠ 0) :
    NextR M size n (some (n + Lib.ctz 64 (ws.getD (n / 64) 0 / 2 ^ (n % 64)))) := by
  have hX := h.lt (n / 64)
  obtain ⟨X, hXe⟩ : ∃ X, ws.getD (n / 64) 0 = X := ⟨_, rfl⟩
  obtain ⟨L, hL⟩ : ∃ L, X / 2 ^ (n % 64) = L := ⟨_, rfl⟩
  rw [hXe] at hX h0 ⊢
  rw [hL] at h0 ⊢
  have hL64 : L < 2 ^ 64 := by rw [← hL]; exact Nat.lt_of_le_of_lt (Nat.div_le_self _ _) hX
  obtain ⟨m, hm, hc⟩ := Lib.ctzFrom_spec 64 L (by omega) hL64
  have hce : Lib.ctz 64 L = Lib.ctzFrom 64 L := by simp [Lib.ctz, h0]
  rw [hce]
  obtain ⟨c, hcc⟩ : ∃ c, Lib.ctzFrom 64 L = c := ⟨_, rfl⟩
  rw [hcc] at hm hc ⊢
  have bit : ∀ j, L.testBit j = X.testBit (n % 64 + j) := fun j => by
    rw [← hL, Nat.testBit_div_two_pow]
    first
      | rfl
      | rw [Nat.add_comm]
  have hb1 : L.testBit c = true := by rw [hm, Nat.testBit_two_pow_mul]; simp
  have hb0 : ∀ j, j < c → L.testBit j = false := fun j hj => by rw [hm, Nat.testBit_two_pow_mul]; simp; omega
  have hlt : n % 64 + c < 64 := by
    apply Nat.lt_of_not_le
    intro hle
    have p : X < 2 ^ (n % 64 + c) := Nat.lt_of_lt_of_le hX (Nat.le_trans (by decide : (18446744073709551616 : Nat) ≤ 2 ^ 64) (Nat.pow_le_pow_right (by omega) hle))
    rw [bit, Nat.testBit_lt_two_pow p] at hb1
    cases hb1
  have hat : ∀ j, n % 64 + j < 64 → L.testBit j = (decide (n + j < size) && M (n + j)) := fun j hj => by
    have := h.bit (n + j)
    rw [show (n + j) / 64 = n / 64 by omega, show (n + j) % 64 = n % 64 + j by omega, hXe] at this
    rw [bit, this]
  have h1 := hat c hlt
  rw [hb1] at h1
  simp only [Bool.true_eq, Bool.and_eq_true, decide_eq_true_eq] at h1
  refine ⟨by omega, h1.1, h1.2, fun j hj hj' => ?_⟩
  have h2 := hat (j - n) (by omega)
  rw [hb0 _ (by omega), show n + (j - n) = j by omega, decide_eq_true (show j < size by omega), Bool.true_and] at h2
  exact h2.symm
end Go.Proofs.YtnobempbcdkoaaaGreatDoor
namespace Go.Proofs.YtnobempbcdkoaaaGreatDoor
open Go.RowKit

variable {w : World} {p q cap : Nat} {ws : List Nat} {size : Nat} {M : Nat → Bool}
set_option maxHeartbeats 1000000 in
theorem set_Next (n : Int) (h : SetAt w p q cap ws size M) (hT : Tab w) :
    Calls Tryz.prog 102 #[.pointer (some ⟨p, 0, none⟩), .int .i64 n] w fun e w' => ∃ o, NextR M size n.toNat o ∧ e = .returned (.tuple #[.int .i64 (o.getD 0 : Nat), .bool o.isSome]) ∧ w = w' := by
  obtain ⟨d0, d1, e0, e1⟩ := box2 h.box
  have hle := h.le
  obtain ⟨_, _, _, hcap, _⟩ := id h.row
  rw [List.length_map] at hcap
  have HS := Lib.hid (And.intro h hT)
  clear h hT
  obtain ⟨m, hm⟩ : ∃ m : Nat, n.toNat = m := ⟨_, rfl⟩
  rw [hm]
  have hmx : (if n < 0 then (0 : Int) else n) = (m : Int) := by split <;> omega
  clear hm
  go_enter Tryz.func102, Tryz.ntmps102
  go_wp2_with fail
  go_step3
  go_wp2_with fail
  go_step3
  go_wp2_with fail
  go_loopw [1] (fun i wr => ∃ k : Nat, i = .int .i64 k ∧ wr = w ∧ m ≤ k ∧ k ≤ m + 2097216 ∧ Hid (∀ j, m ≤ j → j < k → j < size → M j = false)) (fun i _ => size - (intOf i).toNat)
  case atStart => exact ⟨m, rfl, rfl, Nat.le_refl _, by omega, fun j h1 h2 => by omega⟩
  case round =>
    obtain ⟨k, rfl, rfl, hmk, hk, HM⟩ := hrel
    go_wp2_with (go_at_call 104; fail)
    refine (set_may k HS.out.1).mono ?_
    rintro e w' ⟨rfl, rfl⟩
    by_cases hks : k < size
    · rw [show mayB size k = true by unfold mayB; simp [hks]]
      have hi := HS.out.1.rep.idx hks
      have dq := u64_cell HS.out.1.row hi
      have hX := HS.out.1.rep.lt (k / 64)
      have HL := Lib.hid (HS.out.1.rep.left_none (n := k))
      have HL' := Lib.hid (HS.out.1.rep.left_some (n := k))
      obtain ⟨X, hX0⟩ : ∃ X, ws.getD (k / 64) 0 = X := ⟨_, rfl⟩
      rw [hX0] at dq hX HL HL'
      clear hX0
      have hb : (k : Int) / 64 < (ws.length : Int) := by omega
      obtain ⟨L, hL⟩ : ∃ L, X / 2 ^ (k % 64) = L := ⟨_, rfl⟩
      rw [hL] at HL HL'
      have hXL : (X : Int) / 2 ^ (k % 64) = (L : Int) := by rw [← hL]; simp
      have hL64 : L < 18446744073709551616 := by rw [← hL]; exact Nat.lt_of_le_of_lt (Nat.div_le_self _ _) hX
      clear hL
      by_cases hL0 : L = 0
      · subst hL0
        have hXL0 : (X : Int) / 2 ^ (k % 64) = 0 := hXL
        clear hXL
        go_wp2_with fail
        refine ⟨⟨k + (64 - k % 64), by go_num, trivial, by omega, by omega, fun j h1 h2 h3 => ?_⟩, by simp [intOf]; omega⟩
        by_cases hjk : j < k
        · exact HM.out j h1 hjk h3
        · exact HL.out trivial j (by omega) h2 h3
      · have hL0' : ¬ (L : Int) = 0 := by omega
        have HN := Lib.hid (HL'.out hL0)
        go_wp2_with (go_at_call 141; fail)
        rw [hXL]
        refine (bits_tz64 L hL64 wr HS.out.2).mono ?_
        rintro e w' ⟨rfl, rfl⟩
        obtain ⟨c, hc⟩ : ∃ c, Lib.ctz 64 L = c := ⟨_, rfl⟩
        rw [hc] at HN ⊢
        have hkc : k + c < size := HN.out.2.1
        clear hc hXL
        go_wp2_with (go_at_call 104; fail)
        refine (set_may (k + c : Nat) HS.out.1).mono ?_
        rintro e w' ⟨rfl, rfl⟩
        rw [show mayB size (k + c : Nat) = true by unfold mayB; simp; omega]
        go_wp2_with fail
        rw [Exit.noGoto_ret]
        go_ret2
        exact ⟨some (k + c), ⟨by omega, hkc, HN.out.2.2.1, fun j h1 h2 => by
          by_cases hjk : j < k
          · exact HM.out j h1 hjk (by omega)
          · exact HN.out.2.2.2 j (by omega) h2⟩, rfl, rfl⟩
    · rw [show mayB size k = false by unfold mayB; simp [hks]]
      go_wp2_with (go_at_call 104; fail)
      refine (set_may k HS.out.1).mono ?_
      rintro e w' ⟨rfl, rfl⟩
      rw [show mayB size k = false by unfold mayB; simp [hks]]
      go_wp2_with fail
      rw [Exit.noGoto_ret]
      go_ret2
      exact ⟨none, fun j h1 h2 => HM.out j h1 (by omega) h2, rfl, rfl⟩
end Go.Proofs.YtnobempbcdkoaaaGreatDoor
namespace Go.Proofs.YtnobempbcdkoaaaGreatDoor
open Go.RowKit Go.Shelf
attribute [local go_sem] Oper.semAt_some

variable {w : World} {p q cap : Nat} {ws : List Nat} {size : Nat} {M : Nat → Bool}
/-- What a set has, rising. -/
def elems (M : Nat → Bool) (n : Nat) : List Nat := (List.range n).filter M
theorem elems_succ (n : Nat) : elems M (n + 1) = elems M n ++ (if M n then [n] else []) := by
  unfold elems
  rw [List.range_succ, List.filter_append]
  by_cases h : M n <;> simp [h]
theorem elems_skip {m : Nat} : ∀ {d : Nat}, (∀ j, m ≤ j → j < m + d → M j = false) → elems M (m + d) = elems M m
  | 0, _ => rfl
  | d + 1, h => by
    rw [← Nat.add_assoc, elems_succ, elems_skip (fun j h1 h2 => h j h1 (by omega)), h (m + d) (by omega) (by omega)]
    simp
theorem elems_some {m k : Nat} (h : NextR M size m (some k)) : elems M (k + 1) = elems M m ++ [k] := by
  obtain ⟨d, rfl⟩ : ∃ d, k = m + d := ⟨k - m, by have := h.1; omega⟩
  rw [elems_succ, elems_skip h.2.2.2, if_pos h.2.2.1]
theorem elems_none {m : Nat} (h : NextR M size m none) (hm : m ≤ size) : elems M size = elems M m := by
  obtain ⟨d, rfl⟩ : ∃ d, size = m + d := ⟨size - m, by omega⟩
  exact elems_skip h
theorem elems_prefix (m d : Nat) : elems M m <+: elems M (m + d) := by
  induction d with
  | zero => exact List.prefix_rfl
  | succ d ih => rw [← Nat.add_assoc, elems_succ]; exact ih.trans (List.prefix_append _ _)
theorem elems_len : ∀ n, (elems M n).length = cnt M n
  | 0 => rfl
  | n + 1 => by
    rw [elems_succ, List.length_append, elems_len n]
    show _ = cnt M n + _
    cases M n <;> rfl
theorem mem_elems {x n : Nat} : x ∈ elems M n ↔ x < n ∧ M x = true := by simp [elems]

theorem set_All (w : World) (pv : Option Addr) :
    Calls Tryz.prog 53 #[.pointer pv] w fun e w' => ∃ b, e = .returned (.func (.func 100) #[] #[.pointer (some ⟨b, 0, none⟩)]) ∧ Touch nob w w' ∧ w.heap.size ≤ b ∧ w'.heap[b]? = some (Obj.cells #[.pointer pv] 100) := by
  go_enter Tryz.func53, Tryz.ntmps53
  go_wp2
  go_ret
  exact ⟨w.heap.size, rfl, (Touch.refl nob w).alloc _, Nat.le_refl _, World.alloc_heap_new w _⟩
def allMeas (size : Nat) (nv okv : Value) : Nat := match okv with
  | .bool true => size - (intOf nv).toNat
  | _ => 0
set_option maxHeartbeats 800000 in
theorem all1_iter (b : Nat) (hS : SetAt w p q cap ws size M) (hT : Tab w) (hb : w.heap[b]? = some (Obj.cells #[.pointer (some ⟨p, 0, none⟩)] 100)) :
    Iter Tryz.prog 100 #[.pointer (some ⟨b, 0, none⟩)] (fun i : Nat => #[.int .i64 i]) AbD (fun _ _ => True) (elems M size) (fun k => k = 0) w := by
  intro l J Jx W O hTo hJ hJx hY h0 hPr hO
  have hWb := blk_touch hb hTo (fun x => x)
  have hWS := hS.touch hTo (fun x => x) (fun x => x)
  have hWT := hT.touch hTo (fun x => x)
  clear hTo hS hT hb
  refine callsIn_of_wp Tryz.func100 rfl trivial ?_ rfl
  simp only [Tryz.ntmps100, List.size_toArray, List.length_cons, List.length_nil, Nat.reduceAdd, Nat.reduceSub, Array.replicate_succ, Array.replicate_zero, List.push_toArray, List.append_toArray, List.nil_append, List.cons_append]
  obtain ⟨cb, fb⟩ := box1 hWb
  have H := Lib.hid (And.intro hWS (And.intro hWT hWb))
  clear hWS hWT hWb
  gi_wp2_with fail
  refine ⟨trivial, rfl, ?_⟩
  refine (callsIn_wide.2 (set_Copy H.out.1)).mono ?_
  rintro e W1 ⟨p', g, cap', rfl, hT1, hp', hg, hS1⟩
  have hO1 := hJ _ _ _ _ h0 (hT1.mono (fun _ _ x => x.elim))
  have htl := H.out.2.1.lt
  have hpl := blk_lt hS1.box
  have hgl := hS1.row.lt
  have H1 := Lib.hid (And.intro hS1 (And.intro (H.out.2.1.touch hT1 (fun x => x)) (And.intro (fun h => Nat.lt_irrefl _ (Nat.lt_of_lt_of_le (hO _ h) hp')) (And.intro (fun h => Nat.lt_irrefl _ (Nat.lt_of_lt_of_le (hO _ h) hg)) (And.intro (hPr _ rfl) (Nat.lt_of_lt_of_le htl hT1.size))))))
  have hJ2 : ∀ (pre : List Nat) (O : Nat → Prop) (A B : World), J pre O A → Touch nob A B → J pre O B := fun pre O A B h ht => hJ pre O A B h (ht.mono (fun _ _ x => x.elim))
  clear hS1 hT1 h0 H hp' hg hPr hO htl hJ hJx
  gi_wp2_with fail
  refine ⟨trivial, rfl, ?_⟩
  refine (callsIn_wide.2 (set_Next 0 H1.out.1 H1.out.2.1)).mono ?_
  rintro e W2 ⟨o, ho, rfl, rfl⟩
  have HN := Lib.hid ho
  clear ho
  gi_wp2_with fail
  gi_loopw [4, 5] (fun nv okv wr => ∃ (m : Nat) (o : Option Nat) (O : Nat → Prop), nv = .int .i64 (o.getD 0 : Nat) ∧ okv = .bool o.isSome ∧ m ≤ size ∧ Hid (NextR M size m o) ∧ J (elems M m) O wr ∧ Hid (SetAt wr p' g cap' ws size M ∧ Tab wr ∧ ¬ O p' ∧ ¬ O g ∧ ¬ O 0 ∧ 0 < wr.heap.size)) (fun nv okv _ => allMeas size nv okv)
  case atStart => exact ⟨0, o, O, rfl, rfl, Nat.zero_le _, HN, hO1, H1⟩
  case round =>
    obtain ⟨m, o, O, rfl, rfl, hm, HN, hJi, H⟩ := hrel
    clear H1 hO1
    cases o with
    | none =>
      rw [show (none : Option Nat).isSome = false from rfl]
      clear hY
      have hJi' : J (elems M size) O wr := by rw [elems_none HN.out hm]; exact hJi
      gi_wp2
      go_end0
      exact ⟨⟨_, rfl⟩, O, .inl hJi'⟩
    | some k =>
      rw [show (some k).isSome = true from rfl, show (some k).getD 0 = k from rfl]
      have hpre : elems M m ++ [k] <+: elems M size := by
        rw [← elems_some HN.out]
        obtain ⟨d, hd⟩ : ∃ d, size = k + 1 + d := ⟨size - (k + 1), by have := HN.out.2.1; omega⟩
        rw [hd]; exact elems_prefix _ _
      have hks : k < size := HN.out.2.1
      have hsl := H.out.1.le
      obtain ⟨fn, tmps, assign, body, hy, hR⟩ := hY (elems M m) k wr O hJi hpre
      have HR := Lib.hid hR
      have HP := Lib.hid hpre
      clear hR hpre hJi
      gi_wp2_with fail
      refine ⟨rfl, HR.out.mono ?_⟩
      rintro e W' ⟨O', hT, hsub, (⟨rfl, hJ', _⟩ | ⟨rfl, hJx'⟩)⟩
      · have H' : Hid (SetAt W' p' g cap' ws size M ∧ Tab W' ∧ ¬ O' p' ∧ ¬ O' g ∧ ¬ O' 0 ∧ 0 < W'.heap.size) := by
          obtain ⟨a1, a2, a3, a4, a5, a6⟩ := H.out
          have hpl := blk_lt a1.box
          have hgl := a1.row.lt
          have no : ∀ b, b < wr.heap.size → ¬ O b → ¬ O' b := fun b hb hn h => by
            rcases hsub b h with h | h
            · exact hn h
            · omega
          exact ⟨a1.touch hT a3 a4, a2.touch hT a5, no _ hpl a3, no _ hgl a4, no _ a6 a5, Nat.lt_of_lt_of_le a6 hT.size⟩
        have HJ' : Hid (J (elems M (k + 1)) O' W') := by show J _ _ _; rw [elems_some HN.out]; exact hJ'
        clear hsub hT hJ' H
        gi_wp2_with fail
        refine ⟨trivial, rfl, ?_⟩
        refine (callsIn_wide.2 (set_Next (k + 1 : Nat) H'.out.1 H'.out.2.1)).mono ?_
        rintro e W2 ⟨o', ho, rfl, rfl⟩
        have HN' := Lib.hid ho
        rw [show ((k + 1 : Nat) : Int).toNat = k + 1 by omega] at HN'
        clear ho
        gi_wp2
        go_roundw
        case rel => exact ⟨k + 1, o', O', rfl, rfl, by omega, HN', HJ'.out, H'⟩
        case measure =>
          cases o' with
          | none => simp [allMeas, intOf]; omega
          | some k' => have := HN'.out.1; simp [allMeas, intOf]; omega
      · have HJ' := Lib.hid hJx'
        clear hsub hT hJx'
        gi_wp2
        refine bodyPost_ret (results_none rfl _ _ _) rfl ?_
        exact ⟨⟨_, rfl⟩, O', .inr ⟨elems M m ++ [k], HP.out, HJ'.out⟩⟩
theorem set_Next_nil (n : Int) (w : World) : Calls Tryz.prog 102 #[.pointer none, .int .i64 n] w fun e w' => e = .returned (.tuple #[.int .i64 0, .bool false]) ∧ w = w' := by
  have hmay : ∀ k : Int, Calls Tryz.prog 104 #[.pointer none, .int .i64 k] w fun e w' => e = .returned (.bool false) ∧ w = w' := by
    intro k
    by_cases hk : 0 ≤ k
    · go_enter Tryz.func104, Tryz.ntmps104
      go_wp2
      go_ret
      refine ⟨ret_b ?_, rfl⟩
      simp; omega
    · go_enter Tryz.func104, Tryz.ntmps104
      go_wp2
      go_ret
      exact ⟨rfl, rfl⟩
  obtain ⟨m, hm⟩ : ∃ m : Nat, n.toNat = m := ⟨_, rfl⟩
  have hmx : (if n < 0 then (0 : Int) else n) = (m : Int) := by split <;> omega
  clear hm
  go_enter Tryz.func102, Tryz.ntmps102
  go_wp2_with fail
  go_step3
  go_wp2_with fail
  go_step3
  go_wp2_with fail
  go_loopw [1] (fun i wr => i = .int .i64 m ∧ wr = w) (fun _ _ => 0)
  case atStart => exact ⟨rfl, rfl⟩
  case round =>
    obtain ⟨rfl, rfl⟩ := hrel
    go_wp2_with (go_at_call 104; fail)
    refine (hmay _).mono ?_
    rintro e w' ⟨rfl, rfl⟩
    go_wp2_with (go_at_call 104; fail)
    refine (hmay _).mono ?_
    rintro e w' ⟨rfl, rfl⟩
    go_wp2_with fail
    rw [Exit.noGoto_ret]
    go_ret2
    exact ⟨rfl, rfl⟩
theorem all1_iter_nil (b : Nat) (hb : w.heap[b]? = some (Obj.cells #[.pointer none] 100)) :
    Iter Tryz.prog 100 #[.pointer (some ⟨b, 0, none⟩)] (fun i : Nat => #[.int .i64 i]) AbD (fun _ _ => True) [] (fun k => k = 0) w := by
  intro l J Jx W O hTo hJ hJx hY h0 hPr hO
  have hWb := blk_touch hb hTo (fun x => x)
  refine callsIn_of_wp Tryz.func100 rfl trivial ?_ rfl
  simp only [Tryz.ntmps100, List.size_toArray, List.length_cons, List.length_nil, Nat.reduceAdd, Nat.reduceSub, Array.replicate_succ, Array.replicate_zero, List.push_toArray, List.append_toArray, List.nil_append, List.cons_append]
  obtain ⟨cb, fb⟩ := box1 hWb
  clear hb hY hPr hO hJ hJx hTo hWb
  gi_wp2_with fail
  refine ⟨trivial, rfl, ?_⟩
  refine (callsIn_wide.2 (set_Copy_nil W)).mono ?_
  rintro e W1 ⟨rfl, rfl⟩
  gi_wp2_with fail
  refine ⟨trivial, rfl, ?_⟩
  refine (callsIn_wide.2 (set_Next_nil 0 W)).mono ?_
  rintro e W1 ⟨rfl, rfl⟩
  gi_wp2_with fail
  gi_loopw [4, 5] (fun nv okv wr => nv = .int .i64 0 ∧ okv = .bool false ∧ wr = W) (fun _ _ _ => 0)
  case atStart => exact ⟨rfl, rfl, rfl⟩
  case round =>
    obtain ⟨rfl, rfl, rfl⟩ := hrel
    gi_wp2
    go_end0
    exact ⟨⟨_, rfl⟩, O, .inl h0⟩
end Go.Proofs.YtnobempbcdkoaaaGreatDoor
namespace Go.Proofs.YtnobempbcdkoaaaGreatDoor
open Go.RowKit

theorem mk_eqs : mk 85 8 = 6148914691236517205 ∧ mk 51 8 = 3689348814741910323 ∧ mk 15 8 = 1085102592571150095 := by decide
theorem and_nat (a b : Nat) (ha : a < 18446744073709551616) (hb : b < 18446744073709551616) (c : Nat) (h : a &&& b = c) : bits .and .u64 (a : Int) (b : Int) = (c : Int) := by
  rw [← h]; exact bits_and_u64_nat a b ha hb
theorem and127 (v : Nat) (h : v < 9223372036854775808) : bits .and .i64 (v : Int) 127 = ((v % 128 : Nat) : Int) := by
  have h1 : (BitVec.ofInt 64 (v : Int)).toNat = v := by
    rw [BitVec.ofInt_natCast, BitVec.toNat_ofNat]; exact Nat.mod_eq_of_lt (by omega)
  have h2 : (BitVec.ofInt 64 127).toNat = 127 := by decide
  show IntKind.i64.wrap ((BitVec.ofInt 64 (v : Int) &&& BitVec.ofInt 64 127).toNat : Int) = _
  rw [BitVec.toNat_and, h1, h2, Nat.and_two_pow_sub_one_eq_mod v 7, IntKind.wrap_i64]
  omega
end Go.Proofs.YtnobempbcdkoaaaGreatDoor
namespace Go.Proofs.YtnobempbcdkoaaaGreatDoor
open Go.RowKit

variable {w : World} {p q cap : Nat} {ws : List Nat} {size : Nat} {M : Nat → Bool}
def bitOf (ws : List Nat) (n : Nat) : Bool := (ws.getD (n / 64) 0).testBit (n % 64)
theorem cnt_word (ws : List Nat) (k : Nat) : cnt (bitOf ws) (64 * (k + 1)) = cnt (bitOf ws) (64 * k) + ones (ws.getD k 0) := by
  rw [Nat.mul_succ, cnt_add]
  congr 1
  unfold ones
  refine cnt_congr fun j hj => ?_
  unfold bitOf
  rw [show (64 * k + j) / 64 = k by omega, show (64 * k + j) % 64 = j by omega]
theorem WRep.cnt (h : WRep ws size M) : cnt (bitOf ws) (64 * ws.length) = cnt M size := by
  obtain ⟨d, hd⟩ : ∃ d, 64 * ws.length = size + d := ⟨64 * ws.length - size, by have := h.len; omega⟩
  have hb : ∀ n, bitOf ws n = (decide (n < size) && M n) := h.bit
  rw [hd, cnt_add, cnt_none (n := d) (fun k _ => by rw [hb, decide_eq_false (by omega)]; rfl)]
  exact cnt_congr fun k hk => by rw [hb]; simp [hk]
end Go.Proofs.YtnobempbcdkoaaaGreatDoor
namespace Go.Proofs.YtnobempbcdkoaaaGreatDoor
open Go.RowKit

variable {w : World} {p q cap n : Nat} {c : Cf} {ks : List Int}
theorem blk_Slots_ok (b : Nat) (h : BlkAt w p q cap n c ks) (hb : b < ks.length) (hL : Limits w) (hS : Sizes w) :
    Calls Tryz.prog 173 #[.pointer (some ⟨p, 0, none⟩), .int .i64 b] w fun e w' => ∃ v, e = .returned v ∧ Touch nob w w' ∧ IntsIn w' v (sl c (ks.getD b 0) b) ∧ ∀ g, v.ownBlock = some g → w.heap.size ≤ g := by
  have hk := h.cls b hb
  obtain ⟨k, hke⟩ : ∃ k, ks.getD b 0 = k := ⟨_, rfl⟩
  have hcl := blk_Class_ok b h hb
  rw [hke] at hk hcl ⊢
  have HCL := Lib.hid hcl
  have HLS := Lib.hid (And.intro hL hS)
  obtain ⟨⟨d0, d1, d2, d3⟩, d4, d5, d6, d7⟩ := box8 h.box
  have H := Lib.hid h
  have HP := Lib.hid (show perBlock c.c1 k = ((perBlock c.c1 k).toNat : Nat) by have := (per_cls h.ok hk).1; omega)
  clear h hL hS hcl hke hb
  go_enter Tryz.func173, Tryz.ntmps173
  go_wp2_with (go_at_call 163; fail)
  refine HCL.out.mono ?_
  rintro e w1 ⟨rfl, rfl⟩
  go_wp2_with (go_at_call 183; fail)
  refine (addr_Slots c.c0 c.c1 c.c2 c.c3 c.c4 c.c5 c.c6 k b w HLS.out.1 HLS.out.2 _ HP.out).mono ?_
  rintro e w1 ⟨v, rfl, hT, hI, hG⟩
  have H2 := Lib.hid (And.intro hT (And.intro hI hG))
  obtain ⟨ao, cp, rfl⟩ := hI.shape
  clear hT hI hG
  go_wp2
  go_ret
  exact ⟨_, rfl, H2.out.1, H2.out.2.1, H2.out.2.2⟩
theorem blk_Slots_no (b : Int) (h : BlkAt w p q cap n c ks) (hb : b < 0 ∨ (ks.length : Int) ≤ b) :
    Calls Tryz.prog 173 #[.pointer (some ⟨p, 0, none⟩), .int .i64 b] w fun e w' => e = .returned (.slice none 0 0) ∧ w = w' := by
  have HCL := Lib.hid (blk_Class_no b h hb)
  clear h hb
  go_enter Tryz.func173, Tryz.ntmps173
  go_wp2_with (go_at_call 163; fail)
  refine HCL.out.mono ?_
  rintro e w1 ⟨rfl, rfl⟩
  go_wp2
  go_ret
  exact ⟨rfl, rfl⟩
theorem blk_Slots (m : Nat) (h : BlkAt w p q cap n c ks) (hL : Limits w) (hS : Sizes w) :
    Calls Tryz.prog 173 #[.pointer (some ⟨p, 0, none⟩), .int .i64 m] w fun e w' => ∃ v, e = .returned v ∧ Touch nob w w' ∧ IntsIn w' v (slAt c ks m) ∧ ∀ g, v.ownBlock = some g → w.heap.size ≤ g := by
  unfold slAt
  by_cases hm : m < ks.length
  · rw [if_pos hm]
    exact blk_Slots_ok m h hm hL hS
  · rw [if_neg hm]
    exact (blk_Slots_no m h (.inr (by omega))).mono fun e w' g => ⟨_, g.1, by rw [g.2]; exact Touch.refl _ _, ⟨none, 0, rfl, .inl rfl⟩, fun _ h => by cases h⟩
end Go.Proofs.YtnobempbcdkoaaaGreatDoor
namespace Go.Proofs.YtnobempbcdkoaaaGreatDoor
open Go.RowKit

variable {w : World} {p q cap n : Nat} {c : Cf} {ks : List Int}
/-- The class that Owner looks with, and whether. -/
def atK (ks : List Int) (b : Int) : Int := if 0 ≤ b ∧ b.toNat < ks.length then ks.getD b.toNat 0 else 0
def atB (ks : List Int) (b : Int) : Bool := decide (0 ≤ b ∧ b.toNat < ks.length)
theorem blk_Class (b : Int) (h : BlkAt w p q cap n c ks) :
    Calls Tryz.prog 163 #[.pointer (some ⟨p, 0, none⟩), .int .i64 b] w fun e w' => e = .returned (.tuple #[.int .i64 (atK ks b), .bool (atB ks b)]) ∧ w = w' := by
  by_cases hb : 0 ≤ b ∧ b.toNat < ks.length
  · obtain ⟨j, rfl⟩ := Int.eq_ofNat_of_zero_le hb.1
    have hj : j < ks.length := by simpa using hb.2
    refine (blk_Class_ok j h hj).mono fun e w' g => ⟨?_, g.2⟩
    rw [g.1]
    unfold atK atB
    rw [if_pos hb, decide_eq_true hb]
    rfl
  · refine (blk_Class_no b h (by omega)).mono fun e w' g => ⟨?_, g.2⟩
    rw [g.1]
    unfold atK atB
    rw [if_neg hb, decide_eq_false hb]
def owV (c : Cf) (ks : List Int) (a : Int) : Bool → Value
  | true => .tuple #[.int .i64 ((a - 1) / c.c1), .int .i64 (ks.getD ((a - 1) / c.c1).toNat 0), .bool true]
  | false => .tuple #[.int .i64 0, .int .i64 0, .bool false]
theorem own_eq {a B K : Int} {F G : Bool} (hc : c.ok = true) (hB : ifB (blkOk c.c0 c.c1 c.c2 c.c3 c.c4 c.c5 c.c6 a) ((a - 1) / c.c1) = B) (hK : atK ks B = K) (hG : atB ks B = G) (hF : fdOk c.c0 c.c1 c.c2 c.c3 c.c4 c.c5 c.c6 K a = F) :
    ownB c ks a = (F && (G && decide ((a - 1 - (a - 1) / c.c1 * c.c1) % clsSize K = 0))) ∧ (F = true → B = (a - 1) / c.c1) ∧ (G = true → K = ks.getD B.toNat 0) := by
  obtain ⟨⟨u0, v0⟩, ⟨u1, v1⟩, _⟩ := cfgOk_iff.1 hc
  have hFB : F = true → blkOk c.c0 c.c1 c.c2 c.c3 c.c4 c.c5 c.c6 a = true := fun h => by rw [h] at hF; exact (fdOk_iff.1 hF).1
  have hBB : blkOk c.c0 c.c1 c.c2 c.c3 c.c4 c.c5 c.c6 a = true → B = (a - 1) / c.c1 ∧ 0 ≤ B := fun h => by
    rw [h] at hB
    have h1 : (a - 1) / c.c1 = B := hB
    have h2 := (blkOk_iff.1 h).2.1
    have : 0 ≤ (a - 1) / c.c1 := Int.ediv_nonneg (by omega) (by omega)
    exact ⟨h1.symm, by omega⟩
  refine ⟨?_, fun h => (hBB (hFB h)).1, fun h => ?_⟩
  · unfold ownB
    cases hb : blkOk c.c0 c.c1 c.c2 c.c3 c.c4 c.c5 c.c6 a
    · cases F
      · rfl
      · rw [hFB rfl] at hb; cases hb
    · obtain ⟨e1, e2⟩ := hBB hb
      rw [← e1]
      by_cases hl : B.toNat < ks.length
      · have e3 : atK ks B = ks.getD B.toNat 0 := by unfold atK; rw [if_pos ⟨e2, hl⟩]
        have e4 : atB ks B = true := by unfold atB; rw [decide_eq_true ⟨e2, hl⟩]
        rw [hG] at e4
        rw [← e3, hK, hF, decide_eq_true hl, e4]
        rfl
      · have e4 : atB ks B = false := by unfold atB; rw [decide_eq_false (fun hh => hl hh.2)]
        rw [hG] at e4
        rw [decide_eq_false hl, e4]
        cases F <;> rfl
  · rw [← hG] at h
    unfold atB at h
    rw [← hK]
    unfold atK
    rw [if_pos (of_decide_eq_true h)]
set_option maxHeartbeats 1000000 in
theorem blk_Owner (a : Int) (h : BlkAt w p q cap n c ks) (hL : Limits w) (hS : Sizes w) :
    Calls Tryz.prog 143 #[.pointer (some ⟨p, 0, none⟩), .int .i64 a] w fun e w' => e = .returned (owV c ks a (ownB c ks a)) ∧ Touch nob w w' := by
  have H := Lib.hid (fun w' (ht : Touch nob w w') => And.intro (h.old ht) (And.intro (hL.touch ht (fun x => x)) (hS.touch ht (fun x => x))))
  clear h hL hS
  go_enter Tryz.func143, Tryz.ntmps143
  go_wp2_with (go_at_call 139; fail)
  refine (blk_Config (H.out _ (Touch.refl _ _)).1).mono ?_
  rintro e w1 ⟨rfl, hT1⟩
  go_wp2_with (go_at_call 162; fail)
  refine (addr_Block _ _ _ _ _ _ _ a w1 (H.out _ hT1).2.1).mono ?_
  rintro e w2 ⟨rfl, hb2⟩
  have hT2 := hT1.trans (Touch.of_below hb2)
  obtain ⟨B, hB⟩ : ∃ B, ifB (blkOk c.c0 c.c1 c.c2 c.c3 c.c4 c.c5 c.c6 a) ((a - 1) / c.c1) = B := ⟨_, rfl⟩
  rw [hB]
  clear hb2 hT1
  go_wp2_with (go_at_call 163; fail)
  refine (blk_Class B (H.out _ hT2).1).mono ?_
  rintro e w3 ⟨rfl, rfl⟩
  obtain ⟨K, hK⟩ : ∃ K, atK ks B = K := ⟨_, rfl⟩
  obtain ⟨G, hG⟩ : ∃ G, atB ks B = G := ⟨_, rfl⟩
  rw [hK, hG]
  go_wp2_with (go_at_call 139; fail)
  refine (blk_Config (H.out _ hT2).1).mono ?_
  rintro e w3 ⟨rfl, hT3⟩
  have hT3 := hT2.trans hT3
  clear hT2
  go_wp2_with (go_at_call 164; fail)
  refine (addr_Find _ _ _ _ _ _ _ K a w3 (H.out _ hT3).2.1 (H.out _ hT3).2.2).mono ?_
  rintro e w4 ⟨rfl, hb4⟩
  have HT4 := Lib.hid (hT3.trans (Touch.of_below hb4))
  obtain ⟨F, hF⟩ : ∃ F, fdOk c.c0 c.c1 c.c2 c.c3 c.c4 c.c5 c.c6 K a = F := ⟨_, rfl⟩
  rw [hF]
  clear hb4 hT3
  obtain ⟨he1, he2, he3⟩ := own_eq (H.out _ (Touch.refl _ _)).1.ok hB hK hG hF
  obtain ⟨bv, hbv⟩ : ∃ b, blkOk c.c0 c.c1 c.c2 c.c3 c.c4 c.c5 c.c6 a = b := ⟨_, rfl⟩
  rw [hbv]
  clear hbv
  cases F
  · rw [show fdV c.c1 K a false = PlV 0 0 0 from rfl]
    have HO : Hid (ownB c ks a = false) := by show _ = _; rw [he1]; rfl
    clear he1 he2 he3 hB hK hG hF
    go_wp2
    refine bodyPost_ret (v := .tuple #[.int .i64 0, .int .i64 0, .bool false]) (by simp [results, Tryz.results143, go_sem]) rfl ⟨by rw [HO.out]; rfl, by have := HT4.out; (repeat (first | with_reducible exact Touch.refl _ _ | with_reducible assumption | with_reducible apply Touch.alloc | with_reducible apply Touch.drewN | with_reducible apply Touch.drew | with_reducible refine Touch.setCell ?_ (.inr (by first | omega | (simp; done) | (simp; omega))) _))⟩
  · obtain ⟨X, hX⟩ : ∃ X, (a - 1) / c.c1 = X := ⟨_, rfl⟩
    obtain ⟨Y, hY⟩ : ∃ Y, (a - 1 - (a - 1) / c.c1 * c.c1) / clsSize K = Y := ⟨_, rfl⟩
    obtain ⟨Z, hZ⟩ : ∃ Z, (a - 1 - (a - 1) / c.c1 * c.c1) % clsSize K = Z := ⟨_, rfl⟩
    rw [show fdV c.c1 K a true = PlV X Y Z by rw [← hX, ← hY, ← hZ]; rfl]
    rw [hZ] at he1
    have HB := Lib.hid (he2 rfl)
    cases G
    · have HO : Hid (ownB c ks a = false) := by show _ = _; rw [he1]; rfl
      clear he1 he2 he3 hB hK hG hF hX hY hZ
      go_wp2
      refine bodyPost_ret (v := .tuple #[.int .i64 0, .int .i64 0, .bool false]) (by simp [results, Tryz.results143, go_sem]) rfl ⟨by rw [HO.out]; rfl, by have := HT4.out; (repeat (first | with_reducible exact Touch.refl _ _ | with_reducible assumption | with_reducible apply Touch.alloc | with_reducible apply Touch.drewN | with_reducible apply Touch.drew | with_reducible refine Touch.setCell ?_ (.inr (by first | omega | (simp; done) | (simp; omega))) _))⟩
    · have HK := Lib.hid (he3 rfl)
      by_cases hz : Z = 0
      · have HO : Hid (ownB c ks a = true) := by show _ = _; rw [he1, decide_eq_true hz]; rfl
        clear he1 he2 he3 hB hK hG hF hX hY hZ
        go_wp2
        refine bodyPost_ret (v := .tuple #[.int .i64 B, .int .i64 K, .bool true]) (by simp [results, Tryz.results143, go_sem]) rfl ⟨by rw [HO.out]; unfold owV; rw [← HB.out, ← HK.out], by have := HT4.out; (repeat (first | with_reducible exact Touch.refl _ _ | with_reducible assumption | with_reducible apply Touch.alloc | with_reducible apply Touch.drewN | with_reducible apply Touch.drew | with_reducible refine Touch.setCell ?_ (.inr (by first | omega | (simp; done) | (simp; omega))) _))⟩
      · have HO : Hid (ownB c ks a = false) := by show _ = _; rw [he1, decide_eq_false hz]; rfl
        clear he1 he2 he3 hB hK hG hF hX hY hZ
        go_wp2
        refine bodyPost_ret (v := .tuple #[.int .i64 0, .int .i64 0, .bool false]) (by simp [results, Tryz.results143, go_sem]) rfl ⟨by rw [HO.out]; rfl, by have := HT4.out; (repeat (first | with_reducible exact Touch.refl _ _ | with_reducible assumption | with_reducible apply Touch.alloc | with_reducible apply Touch.drewN | with_reducible apply Touch.drew | with_reducible refine Touch.setCell ?_ (.inr (by first | omega | (simp; done) | (simp; omega))) _))⟩
end Go.Proofs.YtnobempbcdkoaaaGreatDoor
namespace Go.Proofs.YtnobempbcdkoaaaGreatDoor
open Go.RowKit Go.Shelf
attribute [local go_sem] Oper.semAt_some

variable {w : World} {p q cap n : Nat} {c : Cf} {ks : List Int}
/-- What is laid and never turned. -/
structure Laid (w : World) : Prop where
  lim : Limits w
  siz : Sizes w
theorem Laid.touch {S : Nat → Prop} {w w' : World} (h : Laid w) (ht : Touch S w w') (h1 : ¬ S 1) (h2 : ¬ S 2) : Laid w' := ⟨h.lim.touch ht h1, h.siz.touch ht h2⟩
theorem Laid.old {w w' : World} (h : Laid w) (ht : Touch nob w w') : Laid w' := h.touch ht (fun x => x) (fun x => x)
theorem Laid.lt {w : World} (h : Laid w) : 1 < w.heap.size ∧ 2 < w.heap.size := by
  refine ⟨h.lim.lt, ?_⟩
  obtain ⟨o, ho, _⟩ := cells_of_cell h.siz.1
  exact (Array.getElem?_eq_some_iff.1 ho).1
theorem run_cfg_blocks (c0 c1 c2 c3 c4 c5 c6 : Int) (w : World) : (Instr.field 23 (.agg #[.int .i64 c0, .int .i64 c1, .int .i64 c2, .int .i64 c3, .int .i64 c4, .int .i64 c5, .int .i64 c6]) 0).run Tryz.prog w = .ok (.int .i64 c0) w := by kernel_rfl
/-- What the iterator holds between rounds. -/
structure Held (W wr : World) (O : Nat → Prop) (p' g cap n : Nat) (c : Cf) (ks : List Int) : Prop where
  at' : BlkAt wr p' g cap n c ks
  laid : Laid wr
  np : ¬ O p'
  ng : ¬ O g
  nl : ¬ O 1
  ns : ¬ O 2
  bd : ∀ b, O b → b < wr.heap.size
  sz : W.heap.size ≤ wr.heap.size
theorem Held.old {W wr w' : World} {O : Nat → Prop} {p' g : Nat} (h : Held W wr O p' g cap n c ks) (ht : Touch nob wr w') : Held W w' O p' g cap n c ks :=
  ⟨h.at'.old ht, h.laid.old ht, h.np, h.ng, h.nl, h.ns, fun b hb => Nat.lt_of_lt_of_le (h.bd b hb) ht.size, Nat.le_trans h.sz ht.size⟩
theorem Held.round {W wr w' : World} {O O' : Nat → Prop} {p' g : Nat} (h : Held W wr O p' g cap n c ks) (ht : Touch O wr w') (hs : ∀ b, O' b → O b ∨ (wr.heap.size ≤ b ∧ b < w'.heap.size)) : Held W w' O' p' g cap n c ks := by
  have no : ∀ b, b < wr.heap.size → ¬ O b → ¬ O' b := fun b hb hn h => by
    rcases hs b h with h | h
    · exact hn h
    · omega
  have hl := h.laid.lt
  exact ⟨h.at'.touch ht h.np h.ng, h.laid.touch ht h.nl h.ns, no _ (blk_lt h.at'.box) h.np, no _ h.at'.row.lt h.ng, no _ hl.1 h.nl, no _ hl.2 h.ns, fun b hb => by
    rcases hs b hb with h1 | h1
    · exact Nat.lt_of_lt_of_le (h.bd b h1) ht.size
    · exact h1.2, Nat.le_trans h.sz ht.size⟩
theorem take_snoc'' {xs : List Int} {k : Nat} (h : k < xs.length) : xs.take (k + 1) = xs.take k ++ [xs.getD k 0] := by
  rw [List.take_add_one, List.getD_eq_getElem?_getD, List.getElem?_eq_getElem h]; rfl
end Go.Proofs.YtnobempbcdkoaaaGreatDoor
