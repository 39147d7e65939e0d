/- Sets of numbers: what a set has, listed. Conditions: the library's table reads as laid. -/
import Derived.Test.YtjbmpdibjfcafaaDoorAll
import Derived.Test.YtjbmpdibjfcafaaDoorCount2
import Derived.Test.YtjbmpdibjfcafaaDoorRf
import Derived.WalkLawsBesides
import Derived.Maps.OwnIn
namespace Go.Proofs.YtjbmpdibjfcafaaDoor
open Go.RowKit Go.Shelf
attribute [local go_sem] Oper.semAt_some

/-- Between two rounds. -/
def LiI (W : World) (n0 : Nat) (most : Int) (pre : List Nat) (O : Nat → Prop) (A : World) : Prop :=
  Touch (fun k => k = n0 + 1) W A ∧ A.heap[n0]? = some (Obj.cells #[.int .i64 most] 3) ∧ (0 ≤ most → (pre.length : Int) ≤ most) ∧ ∃ v, LiRow W.heap.size (n0 + 1) pre v A ∧ ∀ j, O j ↔ (j = n0 + 1 ∨ v.ownBlock = some j)
def LiX (W : World) (n0 : Nat) (ys : List Nat) (most : Int) (c : Code) (_ : List Nat) (O : Nat → Prop) (A : World) : Prop :=
  c = Code.exit 0 ∧ Touch (fun k => k = n0 + 1) W A ∧ ∃ v, LiRow W.heap.size (n0 + 1) (ys.take most.toNat) v A ∧ ∀ j, O j ↔ (j = n0 + 1 ∨ v.ownBlock = some j)
variable {w : World} {p q cap : Nat} {ws : List Nat} {size : Nat} {M : Nat → Bool}
set_option maxHeartbeats 2000000 in
theorem list_any (most : Nat) (pv : Option Addr) (xs : List Nat) (hx : xs.length ≤ 2097152) (htl : 0 < w.heap.size)
    (hit : ∀ W b, Touch nob w W → W.heap[b]? = some (Obj.cells #[.pointer pv] 25) → Iter Tryd.prog 96 #[.pointer (some ⟨b, 0, none⟩)] (fun i : Nat => #[.int .i64 i]) AbD (fun _ _ => True) xs (fun k => k = 0) W) :
    Calls Tryd.prog 29 #[.pointer pv, .int .i64 most] w fun e w' => ∃ v, e = .returned v ∧ Touch nob w w' ∧ IntsIn w' v ((xs.take most).map fun (x : Nat) => (x : Int)) := by
  refine (callsIn_wide (n := 0)).1 (callsIn_of_wp_marks Tryd.func29 rfl trivial ?_ rfl)
  simp only [Tryd.ntmps29, List.size_toArray, List.length_cons, List.length_nil, Nat.reduceAdd, Nat.reduceSub, Array.replicate_succ, Array.replicate_zero, List.push_toArray, List.append_toArray, List.nil_append, List.cons_append]
  have hnf : ∀ (fn : Fn) (a b : Array Value) (w : World), (binOp .eql 106 (.func fn a b) .nilFunc).run Tryd.prog w = .ok (.bool false) w := fun _ _ _ _ => by kernel_rfl
  have HS := Lib.hid (And.intro hit (And.intro htl hx))
  clear hit htl hx
  gi_wp2_with fail
  obtain ⟨W, hW⟩ : ∃ W, W = (w.alloc (Obj.cells #[.int .i64 (most : Int)] 3)).alloc (Obj.cells #[.slice none 0 0] 23) := ⟨_, rfl⟩
  rw [← hW]
  have hsz : W.heap.size = w.heap.size + 2 := by rw [hW]; simp
  have hT : Touch nob w W := by rw [hW]; repeat (first | with_reducible exact Touch.refl _ _ | with_reducible assumption | with_reducible apply Touch.alloc | with_reducible apply Touch.drewN | with_reducible apply Touch.drew | with_reducible refine Touch.setCell ?_ (.inr (by first | omega | (simp; done) | (simp; omega))) _)
  have b0 : W.heap[w.heap.size]? = some (Obj.cells #[.int .i64 (most : Int)] 3) := by rw [hW]; simp only [heap_alloc_if, World.size_alloc]; repeat (first | rw [if_pos rfl] | rw [if_pos trivial] | rw [if_neg (by omega)])
  have b1 : W.heap[w.heap.size + 1]? = some (Obj.cells #[.slice none 0 0] 23) := by rw [hW]; simp only [heap_alloc_if, World.size_alloc]; repeat (first | rw [if_pos rfl] | rw [if_pos trivial] | rw [if_neg (by omega)])
  clear hW
  refine ⟨trivial, rfl, ?_⟩
  refine (callsIn_wide.2 (set_All W pv)).mono ?_
  rintro e W1 ⟨b, rfl, hT1, hb, hbox⟩
  obtain ⟨n0, hn0⟩ : ∃ n, n = w.heap.size := ⟨_, rfl⟩
  rw [← hn0] at hsz b0 b1 ⊢
  have hs1 := hT1.size
  have c0 := blk_touch b0 hT1 (fun x => x)
  have c1 := blk_touch b1 hT1 (fun x => x)
  have hIt := HS.out.1 W1 b (hT.trans hT1) hbox
  have H := Lib.hid (And.intro hn0 (And.intro (hT.trans hT1) (And.intro hIt (And.intro c0 (And.intro c1 (show n0 + 2 ≤ W1.heap.size by omega))))))
  clear hn0 hT hT1 hb hbox b0 b1 c0 c1 hIt hs1 hsz
  gi_wp2_with fail
  obtain ⟨i0, hi, hz0, hz1, hz2⟩ := info_parts info_int2
  have hWs := H.out.2.2.2.2.2
  refine rf_law1 ?a1 (O₀ := fun k => k = n0 + 1) rfl (enters_of Tryd.func96 (by kernel_rfl) rfl) H.out.2.2.1 (fun _ => rfl) abD_T abD_M abD_O (fun _ _ _ _ _ _ _ => trivial)
    (LiI W1 n0 most) (LiX W1 n0 (xs) most)
    (fun k hk => by
      have h1 := HS.out.2.1
      have h2 := H.out.1
      have h3 := H.out.2.1.size
      subst hk
      exact ⟨by omega, by omega⟩)
    (fun k hk => by omega)
    (fun pre O A B ⟨h1, h2, h3, v, h4, h5⟩ hab => ⟨abd_touch h1 hab (Nat.le_refl _), abd_boxed hab (by omega) h2, h3, v, h4.keep (fun k hk hh => hab.block k hk (fun x => x.2 ((h5 k).2 hh))), h5⟩)
    (fun c pre O A B ⟨h0, h1, v, h4, h5⟩ hab => ⟨h0, abd_touch h1 hab (Nat.le_refl _), v, h4.keep (fun k hk hh => hab.block k hk (fun x => x.2 ((h5 k).2 hh))), h5⟩)
    ⟨Touch.refl _ _, H.out.2.2.2.1, fun _ => by simp, .slice none 0 0, ⟨H.out.2.2.2.2.1, World.ownsRow_nil _ _ _ _⟩, fun j => by simp [Value.ownBlock]⟩ ?assign ?body ?done ?stop
  case assign =>
    intro l x A K hK
    gi_wp2
    exact hK
  case body =>
    rintro l pre x O A ⟨i1, i2, i3, v, i4, i5⟩ hpre
    obtain ⟨ao, capv, rfl⟩ := own_shape i4.2
    have hlen : pre.length ≤ 2097152 := by
      have h1 := hpre.length_le
      have h3 := HS.out.2.2
      rw [List.length_append] at h1
      omega
    obtain ⟨n, hn⟩ : ∃ n, pre.length = n := ⟨_, rfl⟩
    have c0 := one_cell i2
    have c1 := one_cell i4.1
    have f1 := one_free i4.1
    rw [hn] at c1 i3 hlen
    have HB := Lib.hid (And.intro i1 (And.intro i2 (And.intro i4 (And.intro i5 (And.intro hpre hn)))))
    have i6 := Lib.hid (i3 (by omega))
    have HL := Lib.hid hlen
    clear i1 i2 i3 i4 i5 hpre hn hlen
    by_cases hnm : n = most
    · have hne : ((n : Int) == (most : Int)) = true := by simp; omega
      gi_wp2_with fail
      obtain ⟨i1, i2, i4, i5, hpre, hn⟩ := HB.out
      refine ⟨O, Touch.refl _ _, fun _ h => .inl h, rfl, i1, .slice ao pre.length capv, ?_, i5⟩
      have ht : (xs).take most = pre := by
        rw [← hnm, ← hn]
        exact (List.prefix_iff_eq_take.1 ((List.prefix_append pre [x]).trans hpre)).symm
      show LiRow _ _ ((xs).take (most : Int).toNat) _ _
      rw [show (most : Int).toNat = most by omega, ht]
      exact i4
    · have hne : ((n : Int) == (most : Int)) = false := by simp; omega
      obtain ⟨n1, hn1⟩ : ∃ n1, n0 + 1 = n1 := ⟨_, rfl⟩
      rw [hn1] at c1 f1 ⊢
      have HN1 := Lib.hid hn1
      have HW := Lib.hid hWs
      have hown := HB.out.2.2.1.2
      rw [HB.out.2.2.2.2.2] at hown
      have HO := Lib.hid hown
      have hAs : W1.heap.size ≤ A.heap.size := HB.out.1.size
      have HA := Lib.hid hAs
      have HC1 : Hid ((A.alloc (Obj.cells #[.int .i64 (x : Int)] 3)).heap[n1]? = some (Obj.cells #[.slice ao n capv] 23)) := by
        have := HB.out.2.2.1.1
        rw [hn1, HB.out.2.2.2.2.2] at this
        exact (Below.heap_alloc _ _ _ (blk_lt this)).trans this
      have HC2 : Hid ((Value.slice ao n capv).ownBlock ≠ some n1) := fun e => by
        have := (hown.lt n1 e).1
        omega
      clear hnm hn1 hWs hown hAs
      gi_wp2_with (gi_at_builtin; go_loud (refine wpListIn_append_own_at _ rfl _ _ 23 rfl W1.heap.size 3 i0 (.int .i64 0) 1 8 Tryd.underlying23 hi hz0 hz1 hz2 rfl (by decide) _ n _ rfl (HO.out.alloc _) ⟨A.heap.size, 0, none⟩ 1 1 [.int .i64 (x : Int)] rfl rfl (cell_one_new _ _ _) (by simp [Value.oneCell']) (by have := HL.out; unfold maxLen; omega) (by have := HL.out; omega) (by have := HA.out; simp; omega) ?_; intro v' w1 hown' hgrow _ hat; have HX := Lib.hid (And.intro hown' (And.intro hgrow hat)); have b1' := grown_box hgrow (HC1.out) HC2.out; have c1' := one_cell b1'; have f1' := one_free b1'; obtain ⟨g', cap', rfl⟩ := ownsRow_succ hown'; clear hown' hgrow hat b1'))
      obtain ⟨hown', hgrow, hat⟩ := HX.out
      have hat : some g' = (Value.slice ao n capv).ownBlock ∨ some g' = some (A.alloc (Obj.cells #[.int .i64 (x : Int)] 3)).heap.size := hat
      obtain ⟨i1, i2, i4, i5, hpre, hn⟩ := HB.out
      rw [hn] at i5
      have hn1 := HN1.out
      have hb1 := grown_box hgrow HC1.out HC2.out
      have hA0 := HA.out
      have hW0 := HW.out
      have hglt : g' < (w1.setCell ⟨n1, 0, none⟩ (.slice (some ⟨g', 0, none⟩) (n + 1) cap')).heap.size := by
        have := (hown'.lt g' rfl).2
        simpa [World.setCell] using this
      have hsub : ∀ j, (j = n0 + 1 ∨ j = g') → O j ∨ (A.heap.size ≤ j ∧ j < (w1.setCell ⟨n1, 0, none⟩ (.slice (some ⟨g', 0, none⟩) (n + 1) cap')).heap.size) := by
        rintro j (rfl | hj)
        · exact .inl ((i5 _).2 (.inl rfl))
        · rw [hj]
          rcases hat with h | h
          · exact .inl ((i5 _).2 (.inr h.symm))
          · right
            have : g' = (A.alloc (Obj.cells #[.int .i64 (x : Int)] 3)).heap.size := Option.some.inj h
            rw [World.size_alloc] at this
            exact ⟨by omega, hglt⟩
      have hgn : g' ≠ n1 := by
        have := (hown'.lt g' rfl).1
        omega
      have hTA : Touch O A (w1.setCell ⟨n1, 0, none⟩ (.slice (some ⟨g', 0, none⟩) (n + 1) cap')) :=
        (Touch.grown ((Touch.refl O A).alloc _) hgrow (fun k hk => .inl ((i5 k).2 (.inr hk)))).setCell (.inl ((i5 _).2 (.inl hn1.symm))) _
      refine ⟨fun j => j = n0 + 1 ∨ j = g', hTA, hsub, trivial, ?_, ?_, ?_, .slice (some ⟨g', 0, none⟩) (n + 1) cap', ⟨?_, ?_⟩, fun j => by simp [Value.ownBlock, eq_comm]⟩
      · exact i1.step hTA (fun j hj => by
          rcases (i5 j).1 hj with h | h
          · exact .inl h
          · exact .inr (HO.out.lt j h).1)
      · refine (hTA.block n0 (blk_lt i2) (fun h => ?_)).trans i2
        rcases (i5 _).1 h with h | h
        · omega
        · have := (HO.out.lt _ h).1; omega
      · intro _; have := i6.out; have : n ≠ most := by rintro rfl; simp at hne
        simp; omega
      · rw [hn1]; exact (set_one _ hb1).trans (by simp)
      · have h2 := hown'
        rw [show (pre ++ [x]).length = n + 1 by simp [hn], List.map_append]
        exact owns_at h2 (fun k hk _ => by cases hk; exact set_other _ hgn)

  case done =>
    rintro D O A hD hO ⟨i1, i2, i3, v, i4, i5⟩ hK
    obtain ⟨ao, capv, rfl⟩ := own_shape i4.2
    have c1 := one_cell i4.1
    have HB := Lib.hid (And.intro i1 (And.intro (i3 (by omega)) (And.intro i4.2 (And.intro hK (And.intro hD (fun h => hO ((i5 D).2 (.inr h))))))))
    clear i1 i2 i3 i4 i5 hK hD hO
    gi_wp2
    obtain ⟨i1, i3, i4, hK, hD, hO⟩ := HB.out
    refine ⟨by simp, .inl ⟨_, _, rfl, run_takeDeferred hK, ?_⟩⟩
    refine ⟨.slice ao (xs).length capv, by simp [results, Tryd.f29, go_sem], _, rfl, ?_, ?_⟩
    · exact (H.out.2.1.step i1 (fun i hi => .inr (by have := H.out.1; omega))).putObj (.inr (by have := H.out.2.1.size; omega)) _
    · have h1 := ints_of_own i4
      rw [show (xs).take most = xs from List.take_of_length_le (by omega)]
      exact h1.touch (S := fun k => k = D) ((Touch.refl (fun k => k = D) A).putObj (.inl rfl) _) (fun b hb e => hO (by rw [← e]; exact hb))
  case stop =>
    rintro D c pre O A hD hO hpre ⟨rfl, i1, v, i4, i5⟩ hK
    obtain ⟨ao, capv, rfl⟩ := own_shape i4.2
    have c1 := one_cell i4.1
    have HB := Lib.hid (And.intro i1 (And.intro i4.2 (And.intro hK (And.intro hD (fun h => hO ((i5 D).2 (.inr h)))))))
    clear i1 i4 i5 hK hD hO hpre
    gi_wp2
    obtain ⟨i1, i4, hK, hD, hO⟩ := HB.out
    refine ⟨by simp, .inl ⟨_, _, rfl, run_takeDeferred hK, ?_⟩⟩
    refine ⟨.slice ao ((xs).take (most : Int).toNat).length capv, by simp [results, Tryd.f29, go_sem], _, rfl, ?_, ?_⟩
    · exact (H.out.2.1.step i1 (fun i hi => .inr (by have := H.out.1; omega))).putObj (.inr (by have := H.out.2.1.size; omega)) _
    · have h1 := ints_of_own i4
      rw [show (most : Int).toNat = most by omega] at h1
      have h2 := h1.touch (S := fun k => k = D) ((Touch.refl (fun k => k = D) A).putObj (.inl rfl) (.deferred none)) (fun b hb e => hO (by rw [← e]; exact hb))
      simpa using h2
theorem law01_list (most : Nat) (h : SetAt w p q cap ws size M) (hT : Tab w) :
    Calls Tryd.prog 29 #[.pointer (some ⟨p, 0, none⟩), .int .i64 most] w fun e w' => ∃ v, e = .returned v ∧ Touch nob w w' ∧ IntsIn w' v (((elems M size).take most).map fun (x : Nat) => (x : Int)) :=
  list_any most _ _ (by rw [elems_len]; exact Nat.le_trans (cnt_le _ _) h.le) hT.lt (fun _ b ht hb => all1_iter b (h.touch ht (fun x => x) (fun x => x)) (hT.touch ht (fun x => x)) hb)
theorem law01_list_nil (most : Nat) (hT : Tab w) :
    Calls Tryd.prog 29 #[.pointer none, .int .i64 most] w fun e w' => ∃ v, e = .returned v ∧ Touch nob w w' ∧ IntsIn w' v [] :=
  (list_any most none [] (Nat.zero_le _) hT.lt (fun _ b _ hb => all1_iter_nil b hb)).mono fun _ _ ⟨v, h1, h2, h3⟩ => ⟨v, h1, h2, by simpa using h3⟩
end Go.Proofs.YtjbmpdibjfcafaaDoor
