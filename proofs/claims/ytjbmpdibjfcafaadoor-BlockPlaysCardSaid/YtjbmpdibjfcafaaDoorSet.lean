/- Sets of numbers: New, Size, may, Has, walked. Conditions: none beyond what each says. -/
import Derived.Test.YtjbmpdibjfcafaaDoorProg
import Derived.Test.YtjbmpdibjfcafaaDoorSetLaw
import Derived.Deep.QuietTactic
import Derived.BigQuiet
import Derived.Laws.Bits64b
namespace Go.Proofs.YtjbmpdibjfcafaaDoor
open Go.RowKit

abbrev u64s (ws : List Nat) : List Value := ws.map fun (x : Nat) => Value.int .u64 (x : Int)
/-- A set: its box, its words, what it has. -/
structure SetAt (w : World) (p q cap : Nat) (ws : List Nat) (size : Nat) (M : Nat → Bool) : Prop where
  box : w.heap[p]? = some (.cells #[.slice (some ⟨q, 0, none⟩) ws.length cap, .int .i64 size] 98)
  row : RowAt w q 85 cap (u64s ws)
  rep : WRep ws size M
  le : size ≤ 2097152
theorem SetAt.ne {w : World} {p q cap : Nat} {ws : List Nat} {size : Nat} {M : Nat → Bool} (h : SetAt w p q cap ws size M) : p ≠ q := by
  rintro rfl
  obtain ⟨_, h1, _⟩ := h.row
  have := h.box.symm.trans h1
  simp at this
theorem SetAt.touch {S : Nat → Prop} {w w' : World} {p q cap : Nat} {ws : List Nat} {size : Nat} {M : Nat → Bool} (h : SetAt w p q cap ws size M) (ht : Touch S w w') (hp : ¬ S p) (hq : ¬ S q) : SetAt w' p q cap ws size M :=
  ⟨blk_touch h.box ht hp, h.row.touch ht hq, h.rep, h.le⟩

theorem info_u64 : (Tryd.prog.info? 85).map (fun i => (i.zero, i.size, i.bytes)) = some (some (.int .u64 0), 1, 8) := by kernel_rfl
theorem made_u64s (n : Nat) : (madeCells (Value.int .u64 0).cells (n * 1)).toList = u64s (List.replicate n 0) := by
  apply List.ext_getElem?
  intro i
  simp only [madeCells, Nat.mul_one, Array.toList_map, Array.toList_range, List.getElem?_map]
  by_cases hi : i < n
  · simp [hi, Value.cells, Nat.mod_one]
  · simp [hi]

set_option maxRecDepth 20000 in
theorem bits_New_ok (n : Nat) (hn : n ≤ 2097152) (w : World) :
    Calls Tryd.prog 16 #[.int .i64 n] w fun e w' => ∃ p q cap ws, e = .returned (.tuple #[.pointer (some ⟨p, 0, none⟩), .int .i64 0]) ∧ Touch nob w w' ∧ w.heap.size ≤ p ∧ w.heap.size ≤ q ∧ SetAt w' p q cap ws n (fun _ => false) := by
  obtain ⟨i0, hi, hz0, hz1, hz2⟩ := info_parts info_u64
  obtain ⟨m, hm⟩ : ∃ m, m = (n + 63) / 64 := ⟨_, rfl⟩
  have hml : m ≤ 32768 := by omega
  have HMM := Lib.hid hm
  clear hm
  go_enter Tryd.func16, Tryd.ntmps16
  go_wp2_with (at_make; refine wpList_make_full _ rfl _ _ 96 rfl w.heap.size 85 i0 (.int .u64 0) 1 Tryd.underlying96 hi hz0 hz1 .i64 .i64 _ _ m rfl rfl (by have := HMM.out; omega) (by have := HMM.out; omega) (by rw [hz2]; omega) (by unfold maxLen; omega) (Nat.le_refl _) ?_; intro w1 hown hgrow; have HX := Lib.hid (And.intro hown hgrow); clear hown hgrow)
  go_ret2
  obtain ⟨hown, hgrow⟩ := HX.out
  rw [made_u64s] at hown
  obtain ⟨hr, _, _⟩ := RowAt.of_owns hown
  have hT : Touch nob w w1 := (Touch.refl nob w).grown hgrow (fun _ h => by cases h)
  refine ⟨w1.heap.size, w.heap.size, m, List.replicate m 0, rfl, hT.alloc _, hgrow.size, Nat.le_refl _, ⟨(World.alloc_heap_new w1 _).trans (by rw [List.length_replicate]), hr.touch ((Touch.refl nob _).alloc _) (fun x => x), by rw [HMM.out]; exact WRep.zero n, hn⟩⟩
theorem bits_New_no (n : Int) (hn : n < 0 ∨ 2097152 < n) (w : World) :
    Calls Tryd.prog 16 #[.int .i64 n] w fun e w' => e = .returned (.tuple #[.pointer none, .int .i64 4]) ∧ w = w' := by
  rcases hn with h | h
  all_goals
    go_enter Tryd.func16, Tryd.ntmps16
    go_wp2
    go_ret2
    exact ⟨rfl, rfl⟩

variable {w : World} {p q cap : Nat} {ws : List Nat} {size : Nat} {M : Nat → Bool}
theorem set_Size (h : SetAt w p q cap ws size M) :
    Calls Tryd.prog 26 #[.pointer (some ⟨p, 0, none⟩)] w fun e w' => e = .returned (.int .i64 size) ∧ w = w' := by
  obtain ⟨d0, d1, e0, e1⟩ := box2 h.box
  clear h
  go_enter Tryd.func26, Tryd.ntmps26
  go_wp2
  go_ret
  exact ⟨rfl, rfl⟩
def mayB (size : Nat) (n : Int) : Bool := decide (0 ≤ n) && decide (n < size)
theorem set_may (n : Int) (h : SetAt w p q cap ws size M) :
    Calls Tryd.prog 62 #[.pointer (some ⟨p, 0, none⟩), .int .i64 n] w fun e w' => e = .returned (.bool (mayB size n)) ∧ w = w' := by
  have H := Lib.hid h
  clear h
  by_cases hn : 0 ≤ n
  · go_enter Tryd.func62, Tryd.ntmps62
    go_wp2_with (go_at_call 26; refine (set_Size H.out).mono ?_; rintro e w' ⟨rfl, rfl⟩)
    go_ret
    exact ⟨ret_b (by unfold mayB; simp [hn]), rfl⟩
  · have hn' : n < 0 := by omega
    have hm : mayB size n = false := by unfold mayB; rw [decide_eq_false hn]; rfl
    have HM := Lib.hid hm
    clear hm
    go_enter Tryd.func62, Tryd.ntmps62
    go_wp2_with (go_at_call 26; refine (set_Size H.out).mono ?_; rintro e w' ⟨rfl, rfl⟩)
    go_ret
    exact ⟨ret_b (by rw [HM.out]), rfl⟩
theorem set_Has_no (n : Int) (h : SetAt w p q cap ws size M) (hn : mayB size n = false) :
    Calls Tryd.prog 18 #[.pointer (some ⟨p, 0, none⟩), .int .i64 n] w fun e w' => e = .returned (.bool false) ∧ w = w' := by
  go_enter Tryd.func18, Tryd.ntmps18
  go_wp2_with (go_at_call 62; fail)
  refine (set_may n h).mono ?_
  rintro e w' ⟨rfl, rfl⟩
  rw [hn]
  go_wp2
  go_ret
  exact ⟨rfl, rfl⟩
theorem u64_cell {w : World} {q cap : Nat} {ws : List Nat} (h : RowAt w q 85 cap (u64s ws)) {i : Nat} (hi : i < ws.length) : w.cell? ⟨q, i, none⟩ = some (.int .u64 ((ws.getD i 0 : Nat) : Int)) := by
  rw [h.cell (j := i) (by simpa using hi)]
  simp [List.getD_eq_getElem?_getD, hi]
theorem and_one_u64 (X : Nat) (hX : X < 18446744073709551616) (j : Nat) : bits .and .u64 ((X : Int) / 2 ^ j) 1 = ((X / 2 ^ j % 2 : Nat) : Int) := by
  have h1 : (X : Int) / 2 ^ j = ((X / 2 ^ j : Nat) : Int) := by simp
  have h2 : X / 2 ^ j < 18446744073709551616 := Nat.lt_of_le_of_lt (Nat.div_le_self _ _) hX
  rw [h1]
  have := bits_and_u64_nat (X / 2 ^ j) 1 h2 (by omega)
  rw [show ((1 : Nat) : Int) = 1 from rfl] at this
  rw [this, Nat.and_one_is_mod]
theorem set_Has_ok (n : Nat) (h : SetAt w p q cap ws size M) (hn : n < size) :
    Calls Tryd.prog 18 #[.pointer (some ⟨p, 0, none⟩), .int .i64 n] w fun e w' => e = .returned (.bool (M n)) ∧ w = w' := by
  have hm : mayB size n = true := by unfold mayB; simp [hn]
  obtain ⟨d0, d1, e0, e1⟩ := box2 h.box
  have hi := h.rep.idx hn
  have dq := u64_cell h.row hi
  have hX := h.rep.lt (n / 64)
  have HB := Lib.hid (h.rep.has hn)
  have hle := h.le
  obtain ⟨_, _, _, hcap, _⟩ := id h.row
  rw [List.length_map] at hcap
  go_enter Tryd.func18, Tryd.ntmps18
  go_wp2_with (go_at_call 62; fail)
  refine (set_may n h).mono ?_
  rintro e w' ⟨rfl, rfl⟩
  rw [hm]
  clear h hm
  obtain ⟨X, hX0⟩ : ∃ X, ws.getD (n / 64) 0 = X := ⟨_, rfl⟩
  rw [hX0] at dq hX HB
  clear hX0
  have hb : (n : Int) / 64 < (ws.length : Int) := by omega
  go_wp2
  go_ret
  exact ⟨ret_b (by rw [and_one_u64 X hX, ← HB.out]; rcases Nat.mod_two_eq_zero_or_one (X / 2 ^ (n % 64)) with h | h <;> simp [h]), rfl⟩
end Go.Proofs.YtjbmpdibjfcafaaDoor
