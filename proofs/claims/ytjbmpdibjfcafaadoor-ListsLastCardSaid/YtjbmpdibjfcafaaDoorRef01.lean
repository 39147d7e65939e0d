/- The document's sets of numbers, walked. Conditions: none beyond what each says. -/
import Derived.Test.YtjbmpdibjfcafaaDoorRep
import Derived.Test.YtjbmpdibjfcafaaDoorSet
import Derived.Test.YtjbmpdibjfcafaaDoorSame
import Derived.Deep.QuietTactic
import Derived.BigQuiet
namespace Go.Proofs.YtjbmpdibjfcafaaDoor
open Go.RowKit

abbrev bools (M : Nat → Bool) (n : Nat) : List Value := (List.range n).map fun k => Value.bool (M k)
/-- The document's set. -/
structure RefAt (w : World) (p q size : Nat) (M : Nat → Bool) : Prop where
  box : w.heap[p]? = some (.cells #[.slice (some ⟨q, 0, none⟩) size size] 102)
  row : RowAt w q 4 size (bools M size)
  le : size ≤ 1048576
theorem RefAt.ne {w : World} {p q size : Nat} {M : Nat → Bool} (h : RefAt w p q size M) : p ≠ q := by
  rintro rfl
  obtain ⟨_, h1, _⟩ := h.row
  have := h.box.symm.trans h1
  simp at this
theorem RefAt.touch {S : Nat → Prop} {w w' : World} {p q size : Nat} {M : Nat → Bool} (h : RefAt w p q size M) (ht : Touch S w w') (hp : ¬ S p) (hq : ¬ S q) : RefAt w' p q size M :=
  ⟨blk_touch h.box ht hp, h.row.touch ht hq, h.le⟩
theorem info_bool : (Tryd.prog.info? 4).map (fun i => (i.zero, i.size, i.bytes)) = some (some (.bool false), 1, 1) := by kernel_rfl
theorem made_bools (n : Nat) : (madeCells (Value.bool false).cells (n * 1)).toList = bools (fun _ => false) n := by
  apply List.ext_getElem?
  intro i
  simp only [madeCells, Nat.mul_one, Array.toList_map, Array.toList_range, List.getElem?_map]
  by_cases hi : i < n
  · simp [hi, Value.cells, Nat.mod_one]
  · simp [hi]
theorem bool_cell {w : World} {q size : Nat} {M : Nat → Bool} (h : RowAt w q 4 size (bools M size)) {i : Nat} (hi : i < size) : w.cell? ⟨q, i, none⟩ = some (.bool (M i)) := by
  rw [h.cell (j := i) (by simpa using hi)]
  simp

theorem ref01_New (n : Nat) (hn : n ≤ 1048576) (w : World) :
    Calls Tryd.prog 20 #[.int .i64 n] w fun e w' => ∃ p q, e = .returned (.pointer (some ⟨p, 0, none⟩)) ∧ Touch nob w w' ∧ w.heap.size ≤ p ∧ w.heap.size ≤ q ∧ RefAt w' p q n (fun _ => false) := by
  obtain ⟨i0, hi, hz0, hz1, hz2⟩ := info_parts info_bool
  go_enter Tryd.func20, Tryd.ntmps20
  go_wp2_with (at_make; refine wpList_make_full _ rfl _ _ 100 rfl w.heap.size 4 i0 (.bool false) 1 Tryd.underlying100 hi hz0 hz1 .i64 .i64 _ _ n rfl rfl (by omega) (by omega) (by rw [hz2]; omega) (by unfold maxLen; omega) (Nat.le_refl _) ?_; intro w1 hown hgrow; have HX := Lib.hid (And.intro hown hgrow); clear hown hgrow)
  go_ret
  obtain ⟨hown, hgrow⟩ := HX.out
  rw [made_bools] at hown
  obtain ⟨hr, _, _⟩ := RowAt.of_owns hown
  have hT : Touch nob w w1 := (Touch.refl nob w).grown hgrow (fun _ h => by cases h)
  exact ⟨w1.heap.size, w.heap.size, rfl, hT.alloc _, hgrow.size, Nat.le_refl _, ⟨World.alloc_heap_new w1 _, hr.touch ((Touch.refl nob _).alloc _) (fun x => x), hn⟩⟩

variable {w : World} {p q size : Nat} {M : Nat → Bool}
theorem ref_Has (n : Int) (h : RefAt w p q size M) :
    Calls Tryd.prog 22 #[.pointer (some ⟨p, 0, none⟩), .int .i64 n] w fun e w' => e = .returned (.bool (hasB M size n)) ∧ w = w' := by
  obtain ⟨d0, e0⟩ := box1 h.box
  have hle := h.le
  have HR := Lib.hid h.row
  clear h
  by_cases h0 : 0 ≤ n
  · obtain ⟨k, rfl⟩ := Int.eq_ofNat_of_zero_le h0
    by_cases hk : k < size
    · have dq := bool_cell HR.out hk
      have hb : (k : Int) < (size : Int) := by omega
      have HB : Hid (hasB M size k = M k) := by show _ = _; unfold hasB mayB; simp [hk]
      go_enter Tryd.func22, Tryd.ntmps22
      go_wp2
      go_ret
      exact ⟨ret_b HB.out.symm, rfl⟩
    · have HB : Hid (hasB M size k = false) := by show _ = _; unfold hasB mayB; simp [hk]
      go_enter Tryd.func22, Tryd.ntmps22
      go_wp2
      go_ret
      exact ⟨ret_b HB.out.symm, rfl⟩
  · have HB : Hid (hasB M size n = false) := by show _ = _; unfold hasB mayB; simp [h0]
    go_enter Tryd.func22, Tryd.ntmps22
    go_wp2
    go_ret
    exact ⟨ret_b HB.out.symm, rfl⟩
theorem bools_set {k : Nat} (b : Bool) (hk : k < size) : (bools M size).set k (.bool b) = bools (putM M size k b) size := by
  have hm : mayB size k = true := by unfold mayB; simp [hk]
  apply List.ext_getElem (by simp)
  intro i h1 h2
  rw [List.getElem_set]
  simp only [List.getElem_map, List.getElem_range]
  by_cases hik : k = i
  · subst hik; simp [putM, hm]
  · have : ¬ i = k := fun e => hik e.symm
    simp [hik, putM, this]
set_option maxHeartbeats 400000 in
theorem ref_Put (n : Int) (b : Bool) (h : RefAt w p q size M) :
    Calls Tryd.prog 21 #[.pointer (some ⟨p, 0, none⟩), .int .i64 n, .bool b] w fun e w' => e = .returned (.bool (putB M size n b)) ∧ Touch (fun k => k = q) w w' ∧ RefAt w' p q size (putM M size n b) := by
  obtain ⟨d0, e0⟩ := box1 h.box
  have hle := h.le
  have H := Lib.hid h
  clear h
  by_cases hm : mayB size n = true
  · obtain ⟨k, rfl, hk⟩ := may_nat hm
    have dq := bool_cell H.out.row hk
    have dqf := H.out.row.free k
    have hb0 : (k : Int) < (size : Int) := by omega
    obtain ⟨x, hx⟩ : ∃ x, M k = x := ⟨_, rfl⟩
    have HB : Hid (putB M size k b = (x != b)) := by show _ = _; unfold putB; rw [hm]; simp [hx]
    rw [hx] at dq
    by_cases hxb : x = b
    · have HS : Hid (putM M size k b = M) := by
        show _ = _
        funext j
        unfold putM
        split
        · rename_i hh
          rw [hh.2, ← hxb, ← hx]; rfl
        · rfl
      subst hxb
      clear hm hx
      cases x
      all_goals
        go_enter Tryd.func21, Tryd.ntmps21
        go_wp2
        go_ret
        exact ⟨ret_b (by rw [HB.out]; rfl), Touch.refl _ _, by rw [HS.out]; exact H.out⟩
    · have HS : Hid (RefAt (w.setCell ⟨q, k, none⟩ (.bool b)) p q size (putM M size k b)) := by
        refine ⟨(set_other _ H.out.ne).trans H.out.box, ?_, H.out.le⟩
        rw [← bools_set b hk]
        exact H.out.row.set _ _
      clear hm hx
      cases x <;> cases b
      all_goals first
        | (exact absurd rfl hxb)
        | (go_enter Tryd.func21, Tryd.ntmps21
           go_wp2
           go_ret
           exact ⟨ret_b (by rw [HB.out]; rfl), Touch.setCell (S := fun k => k = q) (Touch.refl _ _) (.inl rfl) _, HS.out⟩)
  · have hm' : mayB size n = false := by simpa using hm
    have HB : Hid (putB M size n b = false) := by show _ = _; unfold putB; rw [hm']; rfl
    have HS : Hid (putM M size n b = M) := by show _ = _; funext j; unfold putM; rw [hm']; simp
    have hd : ¬ (0 ≤ n ∧ n < size) := by intro hh; apply hm; unfold mayB; simp [hh.1, hh.2]
    clear hm hm'
    by_cases h0 : 0 ≤ n
    · have h1 : (size : Int) ≤ n := by omega
      clear hd
      go_enter Tryd.func21, Tryd.ntmps21
      go_wp2
      go_ret
      exact ⟨ret_b HB.out.symm, Touch.refl _ _, by rw [HS.out]; exact H.out⟩
    · clear hd
      go_enter Tryd.func21, Tryd.ntmps21
      go_wp2
      go_ret
      exact ⟨ret_b HB.out.symm, Touch.refl _ _, by rw [HS.out]; exact H.out⟩
end Go.Proofs.YtjbmpdibjfcafaaDoor
