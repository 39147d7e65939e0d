/- Add to a row, walked. Conditions: none beyond what it says. -/
import Derived.Test.YthdlgffpcfjbiaaLog
import Derived.Deep.AppendLies
import Derived.BigRegion
import Derived.ArgAppend
namespace Go.Proofs.Ythdlgffpcfjbiaa
open Go.RowKit

/-- append, by a name that the walk does not open. -/
def Appd (ats : Array TypeId) (ty : TypeId) (args : Array Value) : Sem Value := Builtin.append_ ats ty args
theorem builtin_appd (ats : Array TypeId) (ty : TypeId) (cs : Array Bool) (args : Array Value) : builtin .append ats ty cs args = (do pure (.value (← Appd ats ty args))) := rfl
attribute [local go_sem ↓ high] builtin_appd

theorem grew_fin {w : World} {p : Nat} {t : TypeId} {r : List Value} {v : Value} {ys : List Int} {g cap n : Nat} {w1 : World} (h : Grew w p t r v ys g cap w1) (ht : t ≠ 3) (hl : ys.length ≤ 4096) (hn : n = ys.length) :
    ∃ v' w1', Touch nob w w1' ∧ w1.setCell ⟨p, 0, none⟩ (.slice (some ⟨g, 0, none⟩) n cap) = w1'.setCell ⟨p, 0, none⟩ v' ∧ RwAt (w1.setCell ⟨p, 0, none⟩ (.slice (some ⟨g, 0, none⟩) n cap)) p t r v' ys ∧ SubB w v' v := by
  subst hn
  exact ⟨_, w1, h.touch, rfl, ⟨blk_set h.box (by simp), h.row.set h.box ht 0 _, ht, hl⟩, fun b hb => by cases hb; exact .inr h.new⟩

set_option maxHeartbeats 4000000 in
theorem row_add {w : World} {p : Nat} {t : TypeId} {r : List Value} {v : Value} {xs : List Int} (h : RwAt w p t r v xs) (x : Int) (hx : xs.length < 4096) :
    Calls Try.prog 59 #[.pointer (some ⟨p, 0, none⟩), .int .i64 x] w fun e w' => e = .returned (.tuple #[]) ∧ ∃ v' w1, Touch nob w w1 ∧ w' = w1.setCell ⟨p, 0, none⟩ v' ∧ RwAt w' p t r v' (xs ++ [x]) ∧ SubB w v' v := by
  obtain ⟨i0, hi, hz0, hz1, hz2⟩ := info_parts info_int2
  have hp := blk_lt h.box
  have hr := h.row
  rcases h.row with ⟨rfl, rfl⟩ | ⟨g, o, cap, cur, rfl, h1, h2, h3⟩
  · obtain ⟨c0, f0⟩ := h.cell
    obtain ⟨v1, w3, hrun, hown, hgrow, _⟩ := run_append_own (P := Try.prog) (w.alloc (Obj.cells #[.int .i64 x] 3)).drew (w.alloc (Obj.cells #[.int .i64 x] 3)).drew.heap.size 33 33 3 i0 (.int .i64 0) 1 8 Try.underlying33 hi hz0 hz1 hz2 rfl (by decide) (.slice none 0 0) 0 [] (World.ownsRow_nil _ _ _ _)
      ⟨w.heap.size, 0, none⟩ 1 1 [.int .i64 x] rfl (World.news_of_block (World.alloc_heap_new _ _)) (ints_oneCell _ [x]) (by unfold maxLen; omega) (by omega) (Nat.le_refl _)
    obtain ⟨g', cap', rfl, HG, dd0, ee0⟩ := grew h (by show w.heap.size ≤ (w.alloc _).heap.size; rw [World.size_alloc]; omega) hown hgrow
    change (Appd _ _ _).run _ _ = _ at hrun
    have H := Lib.hid (And.intro h hr)
    clear h hr hown hgrow
    go_enter Try.func59, Try.ntmps59
    go_wp2_with fail
    go_region
    all_goals
      go_end0
      exact ⟨rfl, grew_fin HG.out H.out.1.ty (by simp) (by simp)⟩
  · obtain ⟨c0, f0⟩ := h.cell
    have hgl := blk_lt h2
    have HC := Lib.hid (fun j u (hj : (xs.map (Value.int .i64))[j]? = some u) => show w.cell? ⟨g, o + j, none⟩ = some u by
      obtain ⟨hl, rfl⟩ := List.getElem?_eq_some_iff.1 hj
      simp only [List.length_map] at hl
      rw [hr.cell hl]
      simp [List.getD_eq_getElem?_getD, hl])
    obtain ⟨v1, w3, hrun, hown, hgrow⟩ := run_append_arg_grows (P := Try.prog) (w.alloc (Obj.cells #[.int .i64 x] 3)).drew 33 33 3 i0 (.int .i64 0) 1 8 Try.underlying33 hi hz0 hz1 hz2 rfl (by decide) ⟨g, o, none⟩ xs.length xs.length (xs.map (.int .i64)) (by simp)
      (by intro j u hj; rw [Addr.add_lit]; exact (World.cell?_of_block (a := ⟨g, o + j, none⟩) (Below.heap_alloc _ _ _ hgl)).trans (HC.out j u hj)) ⟨w.heap.size, 0, none⟩ 1 1 [.int .i64 x] rfl (World.news_of_block (World.alloc_heap_new _ _)) (by omega) (by unfold maxLen; omega) (by omega)
    obtain ⟨g', cap', rfl, HG, dd0, ee0⟩ := grew h (by show w.heap.size ≤ (w.alloc _).heap.size; rw [World.size_alloc]; omega) hown hgrow
    change (Appd _ _ _).run _ _ = _ at hrun
    have H := Lib.hid (And.intro h hr)
    clear h hr h2 h3 hown hgrow
    go_enter Try.func59, Try.ntmps59
    go_wp2_with fail
    go_region
    all_goals
      go_end0
      exact ⟨rfl, grew_fin HG.out H.out.1.ty (by simp; omega) (by simp)⟩
end Go.Proofs.Ythdlgffpcfjbiaa
