/- Sets of numbers: Fill, walked. Conditions: the library's table reads as laid. -/
import Derived.Test.YtjbmpdibjfcafaaDoorList
import Derived.Test.YtjbmpdibjfcafaaDoorSet5
namespace Go.Proofs.YtjbmpdibjfcafaaDoor
open Go.RowKit Go.Shelf
attribute [local go_sem] Oper.semAt_some

variable {w : World} {p q cap : Nat} {ws : List Nat} {size : Nat} {M : Nat → Bool}
set_option maxHeartbeats 800000 in
theorem set_Fill_true (h : SetAt w p q cap ws size M) :
    Calls Tryd.prog 39 #[.pointer (some ⟨p, 0, none⟩), .bool true] w fun e w' => (∃ v, e = .returned v) ∧ Touch (fun k => k = q) w w' ∧ ∃ ws' M', SetAt w' p q cap ws' size M' ∧ ∀ k, k < size → M' k = true := by
  have HP := Lib.hid h
  have hle := h.le
  clear h
  go_enter Tryd.func39, Tryd.ntmps39
  go_wp2_with fail
  obtain ⟨W, hW⟩ : ∃ W, W = w.alloc (Obj.cells #[.pointer (some ⟨p, 0, none⟩)] 25) := ⟨_, rfl⟩
  rw [← hW]
  have hT : Touch nob w W := by rw [hW]; repeat (first | with_reducible exact Touch.refl _ _ | with_reducible assumption | with_reducible apply Touch.alloc | with_reducible apply Touch.drewN | with_reducible apply Touch.drew | with_reducible refine Touch.setCell ?_ (.inr (by first | omega | (simp; done) | (simp; omega))) _)
  have b0 : W.heap[w.heap.size]? = some (Obj.cells #[.pointer (some ⟨p, 0, none⟩)] 25) := by rw [hW]; exact World.alloc_heap_new w _
  obtain ⟨n0, hn0⟩ : ∃ n, n = w.heap.size := ⟨_, rfl⟩
  rw [← hn0] at b0 ⊢
  have hSW := HP.out.touch hT (fun x => x) (fun x => x)
  have H := Lib.hid (And.intro hn0 (And.intro hT (And.intro b0 (And.intro (show ¬ n0 = q by have := HP.out.row.lt; omega) hSW))))
  refine (set_Size hSW).mono ?_
  rintro e w' ⟨rfl, rfl⟩
  clear hW hT b0 hn0 hSW
  go_wp2_with fail
  go_loopw [16] (fun i wr => ∃ (k : Nat) (ws' : List Nat) (M' : Nat → Bool), k ≤ size ∧ i = .int .i64 k ∧ Hid (Touch (fun k => k = q) W wr ∧ SetAt wr p q cap ws' size M' ∧ ∀ j, j < k → M' j = true)) (fun i _ => size - (intOf i).toNat)
  case atStart => exact ⟨0, ws, M, by omega, rfl, Touch.refl _ _, H.out.2.2.2.2, fun j hj => by omega⟩
  case round =>
    obtain ⟨k, ws', M', hk, rfl, HR⟩ := hrel
    obtain ⟨c0, f0⟩ := box1 (blk_touch H.out.2.2.1 HR.out.1 H.out.2.2.2.1)
    by_cases hlt : k < size
    · have hb : (k : Int) < (size : Int) := by omega
      go_wp2_with (go_at_call 17; fail)
      refine (set_Put k true HR.out.2.1).mono ?_
      rintro e w3 ⟨ws2, rfl, hT2, hS2⟩
      have H2 : Hid (Touch (fun k => k = q) W w3 ∧ SetAt w3 p q cap ws2 size (putM M' size k true) ∧ ∀ j, j < k + 1 → putM M' size k true j = true) :=
        ⟨HR.out.1.trans hT2, hS2, fun j hj => by
          unfold putM
          split
          · rfl
          · rename_i hh
            have hm : mayB size k = true := by unfold mayB; simp [hlt]
            rw [hm] at hh
            exact HR.out.2.2 j (by simp at hh; omega)⟩
      clear hT2 hS2 c0 f0
      go_wp2
      go_roundw
      case rel => exact ⟨k + 1, _, _, by omega, by go_num, H2⟩
      case measure => simp [intOf]; omega
    · obtain rfl : k = size := by omega
      go_wp2
      go_end0
      exact ⟨⟨_, rfl⟩, (H.out.2.1.mono (fun _ _ x => x.elim)).trans HR.out.1, _, _, HR.out.2.1, HR.out.2.2⟩
theorem set_Fill_nil (w : World) : Calls Tryd.prog 39 #[.pointer none, .bool true] w fun e w' => (∃ v, e = .returned v) ∧ Touch nob w w' := by
  go_enter Tryd.func39, Tryd.ntmps39
  go_wp2_with fail
  have : ∀ W, Calls Tryd.prog 26 #[.pointer none] W fun e w' => e = .returned (.int .i64 0) ∧ W = w' := by
    intro W
    go_enter Tryd.func26, Tryd.ntmps26
    go_wp2
    go_ret
    exact ⟨rfl, rfl⟩
  refine (this _).mono ?_
  rintro e w' ⟨rfl, rfl⟩
  go_wp2_with fail
  go_loopw [16] (fun i wr => i = .int .i64 0 ∧ Hid (Touch nob w wr)) (fun _ _ => 0)
  case atStart => exact ⟨rfl, by show Touch nob w _; repeat (first | with_reducible exact Touch.refl _ _ | with_reducible assumption | with_reducible apply Touch.alloc | with_reducible apply Touch.drewN | with_reducible apply Touch.drew | with_reducible refine Touch.setCell ?_ (.inr (by first | omega | (simp; done) | (simp; omega))) _)⟩
  case round =>
    obtain ⟨rfl, HR⟩ := hrel
    go_wp2
    go_end0
    exact ⟨⟨_, rfl⟩, HR.out⟩

/-- Between two rounds. -/
def FiI (W : World) (n0 p q cap size : Nat) (pre : List Nat) (M : Nat → Bool) (O : Nat → Prop) (A : World) : Prop :=
  (∀ j, O j ↔ j = q) ∧ Touch (fun k => k = q) W A ∧ A.heap[n0]? = some (Obj.cells #[.pointer (some ⟨p, 0, none⟩)] 25) ∧ ∃ ws' M', SetAt A p q cap ws' size M' ∧ ∀ k, M' k = (M k && !decide (k ∈ pre))
set_option maxHeartbeats 2000000 in
theorem set_Fill_false (h : SetAt w p q cap ws size M) (hT : Tab w) (htq : ¬ 0 = q) :
    Calls Tryd.prog 39 #[.pointer (some ⟨p, 0, none⟩), .bool false] w fun e w' => (∃ v, e = .returned v) ∧ Touch (fun k => k = q) w w' ∧ ∃ ws' M', SetAt w' p q cap ws' size M' ∧ ∀ k, k < size → M' k = false := by
  refine (callsIn_wide (n := 0)).1 (callsIn_of_wp_marks Tryd.func39 rfl trivial ?_ rfl)
  simp only [Tryd.ntmps39, List.size_toArray, List.length_cons, List.length_nil, Nat.reduceAdd, Nat.reduceSub, Array.replicate_succ, Array.replicate_zero, List.push_toArray, List.append_toArray, List.nil_append, List.cons_append]
  have HS := Lib.hid (And.intro h (And.intro hT htq))
  clear h hT htq
  gi_wp2_with fail
  obtain ⟨W, hW⟩ : ∃ W, W = w.alloc (Obj.cells #[.pointer (some ⟨p, 0, none⟩)] 25) := ⟨_, rfl⟩
  rw [← hW]
  have hT : Touch nob w W := by rw [hW]; repeat (first | with_reducible exact Touch.refl _ _ | with_reducible assumption | with_reducible apply Touch.alloc | with_reducible apply Touch.drewN | with_reducible apply Touch.drew | with_reducible refine Touch.setCell ?_ (.inr (by first | omega | (simp; done) | (simp; omega))) _)
  have b0 : W.heap[w.heap.size]? = some (Obj.cells #[.pointer (some ⟨p, 0, none⟩)] 25) := by rw [hW]; exact World.alloc_heap_new w _
  obtain ⟨n0, hn0⟩ : ∃ n, n = w.heap.size := ⟨_, rfl⟩
  rw [← hn0] at b0 ⊢
  refine ⟨trivial, rfl, ?_⟩
  refine (callsIn_wide.2 (set_All W _)).mono ?_
  rintro e W1 ⟨b, rfl, hT1, hb, hbox⟩
  have hTT := hT.trans hT1
  have hS1 := HS.out.1.touch hTT (fun x => x) (fun x => x)
  have hIt := all1_iter b hS1 (HS.out.2.1.touch hTT (fun x => x)) hbox
  have H := Lib.hid (And.intro hn0 (And.intro hTT (And.intro hIt (And.intro (blk_touch b0 hT1 (fun x => x)) (And.intro hS1 (show ¬ n0 = q by have := HS.out.1.row.lt; omega))))))
  clear hW hT b0 hn0 hb hbox hTT hS1 hIt hT1
  gi_wp2_with fail
  refine rf_law1 ?a1 (O₀ := fun k => k = q) rfl (enters_of Tryd.func96 (by kernel_rfl) rfl) H.out.2.2.1 (fun _ => rfl) abD_T abD_M abD_O (fun _ _ _ _ _ _ _ => trivial)
    (fun pre O A => FiI W1 n0 p q cap size pre M O A) (fun _ _ _ _ => False)
    (fun k hk => by
      have h1 := HS.out.2.1.lt
      have h2 := H.out.2.1.size
      subst hk
      exact ⟨by omega, HS.out.2.2⟩)
    (fun k hk => by subst hk; exact H.out.2.2.2.2.1.row.lt)
    (fun pre O A B ⟨h1, h2, h3, ws', M', h4, h5⟩ hab => ⟨h1, abd_touch h2 hab (Nat.le_refl _), abd_boxed hab (blk_lt H.out.2.2.2.1) h3, ws', M', h4.touch hab (fun x => absurd x.1 (Nat.not_le_of_lt (blk_lt H.out.2.2.2.2.1.box))) (fun x => x.2 ((h1 q).2 rfl)), h5⟩)
    (fun _ _ _ _ _ h _ => h)
    ⟨fun _ => Iff.rfl, Touch.refl _ _, H.out.2.2.2.1, ws, M, H.out.2.2.2.2.1, fun k => by simp⟩ ?assign ?body ?done ?stop
  case assign =>
    intro l x A K hK
    gi_wp2
    exact hK
  case body =>
    rintro l pre x O A ⟨i1, i2, i3, ws', M', i4, i5⟩ hpre
    obtain ⟨c0, f0⟩ := box1 i3
    have HB := Lib.hid (And.intro i1 (And.intro i2 (And.intro i3 (And.intro i4 (And.intro i5 hpre)))))
    clear i1 i2 i3 i4 i5 hpre
    gi_wp2_with fail
    refine ⟨trivial, rfl, ?_⟩
    refine (CallsIn.inRound l (callsIn_wide.2 (set_Put x false HB.out.2.2.2.1))).mono ?_
    rintro e W2 ⟨ws2, rfl, hT2, hS2⟩
    have H2 := Lib.hid (And.intro hT2 hS2)
    clear hT2 hS2
    gi_wp2
    obtain ⟨i1, i2, i3, i4, i5, hpre⟩ := HB.out
    have hxs : x < size := by
      have : x ∈ elems M size := hpre.subset (by simp)
      exact (mem_elems.1 this).1
    refine ⟨O, H2.out.1.mono (fun k _ hk => (i1 k).2 hk), fun _ h => .inl h, trivial, i1, i2.trans H2.out.1, blk_touch i3 H2.out.1 H.out.2.2.2.2.2, ws2, _, H2.out.2, fun k => ?_⟩
    unfold putM
    have hm : mayB size x = true := by unfold mayB; simp [hxs]
    rw [hm]
    by_cases hkx : k = x
    · subst hkx; simp
    · simp [hkx, i5]
  case done =>
    rintro D O A hD hO ⟨i1, i2, i3, ws', M', i4, i5⟩ hK
    have HB := Lib.hid (And.intro i2 (And.intro i4 (And.intro i5 (And.intro hK (And.intro hD (fun h => hO ((i1 D).2 h)))))))
    clear i1 i2 i3 i4 i5 hK hD hO
    gi_wp2
    obtain ⟨i2, i4, i5, hK, hD, hO⟩ := HB.out
    refine ⟨by simp, .inl ⟨_, _, rfl, run_takeDeferred hK, ?_⟩⟩
    have hpD : ¬ p = D := by have := blk_lt H.out.2.2.2.2.1.box; omega
    have hTD : Touch (fun k => k = D) A (A.putObj D (.deferred none)) := (Touch.refl (fun k => k = D) A).putObj (.inl rfl) _
    refine ⟨.tuple #[], by simp [results, Tryd.f39, go_sem], ⟨_, rfl⟩, ?_, ws', M', i4.touch hTD hpD (fun e => hO e.symm), fun k hk => ?_⟩
    · exact ((H.out.2.1.mono (fun _ _ x => x.elim)).trans i2).putObj (.inr (by have := H.out.2.1.size; omega)) _
    · rw [i5]
      cases hM : M k
      · rfl
      · have : k ∈ elems M size := mem_elems.2 ⟨hk, hM⟩
        simp [this]
  case stop =>
    rintro D c pre O A hD hO hpre h hK
    exact h.elim
end Go.Proofs.YtjbmpdibjfcafaaDoor
