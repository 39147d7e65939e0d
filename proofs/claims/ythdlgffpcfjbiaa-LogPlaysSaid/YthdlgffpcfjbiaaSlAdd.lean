/- Append to a slice that is cut to its length: a new row. Conditions: none beyond what it says. -/
import Derived.Test.YthdlgffpcfjbiaaLogAdd
namespace Go.Proofs.Ythdlgffpcfjbiaa
open Go.RowKit

theorem sl_append {w : World} {ao : Option Addr} {cap n : Nat} {ys : List Int} (h : SlAt w (.slice ao n cap) ys) (hn : ys.length = n) (x : Int) (hl : n ≤ 4096) :
    ∃ g' cap' w3, (Appd #[33, 33] 33 #[.slice ao n n, .slice (some ⟨w.heap.size, 0, none⟩) 1 1]).run Try.prog (w.alloc (Obj.cells #[.int .i64 x] 3)).drew = .ok (.slice (some ⟨g', 0, none⟩) (n + 1) cap') w3 ∧
      Hid (Touch nob w w3 ∧ SlAt w3 (.slice (some ⟨g', 0, none⟩) (n + 1) cap') (ys ++ [x]) ∧ w.heap.size ≤ g') := by
  obtain ⟨i0, hi, hz0, hz1, hz2⟩ := info_parts info_int2
  subst hn
  have fin : ∀ (v1 : Value) (w3 : World), w3.ownsRow (w.alloc (Obj.cells #[.int .i64 x] 3)).drew.heap.size 3 1 v1 (ys.length + 1) (ys.map (.int .i64) ++ [.int .i64 x]) → (w.alloc (Obj.cells #[.int .i64 x] 3)).drew.grownBy w3 none →
      ∃ g' cap', v1 = .slice (some ⟨g', 0, none⟩) (ys.length + 1) cap' ∧ Hid (Touch nob w w3 ∧ SlAt w3 (.slice (some ⟨g', 0, none⟩) (ys.length + 1) cap') (ys ++ [x]) ∧ w.heap.size ≤ g') := by
    intro v1 w3 hown hgrow
    obtain ⟨g, c, rfl, hb, _, _, _⟩ := RowAt.of_owns_some hown (by omega)
    refine ⟨g, c, rfl, Touch.grown ((Touch.refl nob w).alloc _).drew hgrow (fun _ h => by cases h), ?_, Nat.le_trans (by show w.heap.size ≤ (w.alloc _).heap.size; rw [World.size_alloc]; omega) hb⟩
    have hown' : w3.ownsRow (w.alloc (Obj.cells #[.int .i64 x] 3)).drew.heap.size 3 1 (.slice (some ⟨g, 0, none⟩) (ys.length + 1) c) (ys.length + 1) ((ys ++ [x]).map (.int .i64)) := by rw [List.map_append]; exact hown
    exact SlAt.of_owns hown'
  rcases id h with ⟨h0, rfl⟩ | ⟨g, o, cap, cur, hv, h1, h2, h3⟩
  · cases h0
    obtain ⟨v1, w3, hrun, hown, hgrow, _⟩ := run_append_own (P := Try.prog) (w.alloc (Obj.cells #[.int .i64 x] 3)).drew (w.alloc (Obj.cells #[.int .i64 x] 3)).drew.heap.size 33 33 3 i0 (.int .i64 0) 1 8 Try.underlying33 hi hz0 hz1 hz2 rfl (by decide) (.slice none 0 0) 0 [] (World.ownsRow_nil _ _ _ _)
      ⟨w.heap.size, 0, none⟩ 1 1 [.int .i64 x] rfl (World.news_of_block (World.alloc_heap_new _ _)) (ints_oneCell _ [x]) (by unfold maxLen; omega) (by omega) (Nat.le_refl _)
    obtain ⟨g', c', rfl, H⟩ := fin v1 w3 hown hgrow
    exact ⟨g', c', w3, hrun, H⟩
  · cases hv
    have hgl := blk_lt h2
    have HC : ∀ j u, (ys.map (Value.int .i64))[j]? = some u → w.cell? ⟨g, o + j, none⟩ = some u := fun j u hj => by
      obtain ⟨hl, rfl⟩ := List.getElem?_eq_some_iff.1 hj
      simp only [List.length_map] at hl
      rw [h.cell hl]
      simp [List.getD_eq_getElem?_getD, hl]
    obtain ⟨v1, w3, hrun, hown, hgrow⟩ := run_append_arg_grows (P := Try.prog) (w.alloc (Obj.cells #[.int .i64 x] 3)).drew 33 33 3 i0 (.int .i64 0) 1 8 Try.underlying33 hi hz0 hz1 hz2 rfl (by decide) ⟨g, o, none⟩ ys.length ys.length (ys.map (.int .i64)) (by simp)
      (by intro j u hj; rw [Addr.add_lit]; exact (World.cell?_of_block (a := ⟨g, o + j, none⟩) (Below.heap_alloc _ _ _ hgl)).trans (HC j u hj)) ⟨w.heap.size, 0, none⟩ 1 1 [.int .i64 x] rfl (World.news_of_block (World.alloc_heap_new _ _)) (by omega) (by unfold maxLen; omega) (by omega)
    obtain ⟨g', c', rfl, H⟩ := fin v1 w3 hown hgrow
    exact ⟨g', c', w3, hrun, H⟩
end Go.Proofs.Ythdlgffpcfjbiaa
