/- The rows of the log, walked: count, take, all. Conditions: none beyond what each says. -/
import Derived.Test.YthdlgffpcfjbiaaSl
import Derived.Deep.QuietTactic
import Derived.BigQuiet
namespace Go.Proofs.Ythdlgffpcfjbiaa
open Go.RowKit

/-- A row that lies first in a block: its slice. -/
structure RwAt (w : World) (p : Nat) (t : TypeId) (r : List Value) (v : Value) (xs : List Int) : Prop where
  box : w.heap[p]? = some (.cells (v :: r).toArray t)
  row : SlAt w v xs
  ty : t ≠ 3
  len : xs.length ≤ 4096
theorem RwAt.cell {w : World} {p : Nat} {t : TypeId} {r : List Value} {v : Value} {xs : List Int} (h : RwAt w p t r v xs) : w.cell? ⟨p, 0, none⟩ = some v ∧ w.frozen? ⟨p, 0, none⟩ = false := by
  have := h.box
  simp [World.cell?, World.frozen?, this]
theorem RwAt.old {w w' : World} {p : Nat} {t : TypeId} {r : List Value} {v : Value} {xs : List Int} (h : RwAt w p t r v xs) (ht : Touch nob w w') : RwAt w' p t r v xs := ⟨blk_touch h.box ht (fun x => x), h.row.old ht, h.ty, h.len⟩
theorem RwAt.put {w : World} {p : Nat} {t : TypeId} {r : List Value} {v v' : Value} {xs ys : List Int} (h : RwAt w p t r v xs) (hs : SlAt w v' ys) (hl : ys.length ≤ 4096) : RwAt (w.setCell ⟨p, 0, none⟩ v') p t r v' ys :=
  ⟨blk_set h.box (by simp), hs.set h.box h.ty 0 v', h.ty, hl⟩

theorem row_count {w : World} {p : Nat} {t : TypeId} {r : List Value} {v : Value} {xs : List Int} (h : RwAt w p t r v xs) :
    Calls Try.prog 56 #[.pointer (some ⟨p, 0, none⟩)] w fun e w' => e = .returned (.int .i64 xs.length) ∧ w = w' := by
  obtain ⟨c0, f0⟩ := h.cell
  obtain ⟨ao, cap, rfl, _⟩ := h.row.len
  have hl := h.len
  clear h
  go_enter Try.func56, Try.ntmps56
  go_wp2
  go_ret
  exact ⟨rfl, rfl⟩
theorem row_take_no {w : World} {p : Nat} {t : TypeId} {r : List Value} {v : Value} (h : RwAt w p t r v []) :
    Calls Try.prog 57 #[.pointer (some ⟨p, 0, none⟩)] w fun e w' => e = .returned (.tuple #[.int .i64 0, .bool false]) ∧ w = w' := by
  obtain ⟨c0, f0⟩ := h.cell
  obtain ⟨ao, cap, hv, _⟩ := h.row.len
  rw [List.length_nil] at hv
  subst hv
  clear h
  go_enter Try.func57, Try.ntmps57
  go_wp2
  go_ret2
  exact ⟨rfl, rfl⟩
theorem row_take_ok {w : World} {p : Nat} {t : TypeId} {r : List Value} {v : Value} {x : Int} {xs : List Int} (h : RwAt w p t r v (x :: xs)) :
    Calls Try.prog 57 #[.pointer (some ⟨p, 0, none⟩)] w fun e w' => e = .returned (.tuple #[.int .i64 x, .bool true]) ∧ ∃ v', w' = w.setCell ⟨p, 0, none⟩ v' ∧ RwAt w' p t r v' xs ∧ SubB w v' v := by
  obtain ⟨c0, f0⟩ := h.cell
  have hr := h.row
  rcases h.row with ⟨_, h0⟩ | ⟨g, o, cap, cur, rfl, h1, h2, h3⟩
  · cases h0
  have hx := hr.cell (j := 0) (by simp)
  have hgp := hr.ne h.box h.ty g rfl
  have hl := h.len
  simp only [Nat.add_zero, List.length_cons] at hx h1 hl c0
  have H := Lib.hid (And.intro h hr)
  clear h hr h2 h3
  go_enter Try.func57, Try.ntmps57
  go_wp2
  · go_ret2
    obtain ⟨h, hr⟩ := H.out
    refine ⟨rfl, _, rfl, h.put ?_ (by omega), fun b hb => by cases hb; exact .inl rfl⟩
    have hc : cap = 1 := by omega
    have hx0 : xs = [] := List.eq_nil_of_length_eq_zero (by omega)
    have := hr.tail (g' := g) (o' := o) rfl (.inl hx0)
    simpa [hc] using this
  · go_ret2
    obtain ⟨h, hr⟩ := H.out
    refine ⟨rfl, _, rfl, h.put ?_ (by omega), fun b hb => by cases hb; exact .inl rfl⟩
    have := hr.tail (g' := g) (o' := o + 1) rfl (.inr rfl)
    simpa using this
theorem row_all {w : World} {p : Nat} {t : TypeId} {r : List Value} {v : Value} {xs : List Int} (h : RwAt w p t r v xs) :
    Calls Try.prog 58 #[.pointer (some ⟨p, 0, none⟩)] w fun e w' => ∃ v', e = .returned v' ∧ Touch nob w w' ∧ SlAt w' v' xs ∧ SubB w v' (.slice none 0 0) := by
  obtain ⟨c0, f0⟩ := h.cell
  have H := Lib.hid h
  clear h
  go_enter Try.func58, Try.ntmps58
  go_wp2_with (go_at_call 55; refine (clone_sl H.out.row (by have := H.out.len; omega)).mono ?_; rintro e w1 ⟨v', rfl, h1, h2, h3⟩)
  go_ret
  exact ⟨v', rfl, h1, h2, h3⟩
theorem info_int2 : (Try.prog.info? 3).map (fun i => (i.zero, i.size, i.bytes)) = some (some (.int .i64 0), 1, 8) := by kernel_rfl
/-- What stands behind the append. -/
structure Grew (w : World) (p : Nat) (t : TypeId) (r : List Value) (v : Value) (ys : List Int) (g cap : Nat) (w1 : World) : Prop where
  touch : Touch nob w w1
  row : SlAt w1 (.slice (some ⟨g, 0, none⟩) ys.length cap) ys
  box : w1.heap[p]? = some (.cells (v :: r).toArray t)
  new : w.heap.size ≤ g
theorem grew {w : World} {p : Nat} {t : TypeId} {r : List Value} {v v' : Value} {xs : List Int} {x : Int} {w1 : World} {u : Obj} {base : Nat} (h : RwAt w p t r v xs) (hbase : w.heap.size ≤ base) (hown : w1.ownsRow base 3 1 v' (xs.length + 1) (xs.map (.int .i64) ++ [.int .i64 x])) (hg : (w.alloc u).drew.grownBy w1 none) :
    ∃ g cap, v' = .slice (some ⟨g, 0, none⟩) (xs.length + 1) cap ∧ Hid (Grew w p t r v (xs ++ [x]) g cap w1) ∧ w1.cell? ⟨p, 0, none⟩ = some v ∧ w1.frozen? ⟨p, 0, none⟩ = false := by
  obtain ⟨g, cap, rfl, hb, hr, hl, _⟩ := RowAt.of_owns_some hown (by omega)
  have hT : Touch nob w w1 := Touch.grown ((Touch.refl nob w).alloc u).drew hg (fun _ h => by cases h)
  have hbox := blk_touch h.box hT (fun x => x)
  refine ⟨g, cap, rfl, ⟨hT, ?_, hbox, Nat.le_trans hbase hb⟩, by simp [World.cell?, hbox], by simp [World.frozen?, hbox]⟩
  have hown' : w1.ownsRow base 3 1 (.slice (some ⟨g, 0, none⟩) (xs.length + 1) cap) (xs.length + 1) ((xs ++ [x]).map (.int .i64)) := by rw [List.map_append]; exact hown
  have := SlAt.of_owns hown'
  rw [List.length_append]
  exact this
end Go.Proofs.Ythdlgffpcfjbiaa
