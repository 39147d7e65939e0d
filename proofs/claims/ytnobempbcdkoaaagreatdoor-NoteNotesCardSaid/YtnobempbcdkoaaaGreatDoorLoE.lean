/- The log: its rows, its buffers and boxes, walked; beside a heap. Conditions: none beyond what each says. -/
import Derived.Test.YtnobempbcdkoaaaGreatDoorApp
import Derived.Test.YtnobempbcdkoaaaGreatDoorSla
import Derived.Test.YtnobempbcdkoaaaGreatDoorBlk
import Derived.Test.YtnobempbcdkoaaaGreatDoorStE
import Derived.Deep.QuietTactic
import Derived.BigQuiet
import Derived.Deep.AppendLies
import Derived.BigRegion
import Derived.ArgAppend
namespace Go.Proofs.YtnobempbcdkoaaaGreatDoor
open Go.RowKit

theorem clone_slE {w : World} {v : Value} {xs : List Int} (h : SlAt w v xs) (h2 : xs.length ≤ 1048576) : Calls Tryz.prog 98 #[v] w fun e w' => ∃ v', e = .returned v' ∧ Touch nob w w' ∧ SlAt w' v' xs ∧ SubB w v' (.slice none 0 0) :=
  (clone_ints v xs w h.ints h2).mono fun _ _ ⟨v', e, t, o⟩ => ⟨v', e, t, SlAt.of_owns o, subB_owns o (Nat.le_refl _)⟩
end Go.Proofs.YtnobempbcdkoaaaGreatDoor
namespace Go.Proofs.YtnobempbcdkoaaaGreatDoor
open Go.RowKit

/-- A row that lies first in a block: its slice. -/
structure RwAt (w : World) (p : Nat) (t : TypeId) (r : List Value) (v : Value) (xs : List Int) : Prop where
  box : w.heap[p]? = some (.cells (v :: r).toArray t)
  row : SlAt w v xs
  ty : t ≠ 3
  len : xs.length ≤ 4096
theorem RwAt.cell {w : World} {p : Nat} {t : TypeId} {r : List Value} {v : Value} {xs : List Int} (h : RwAt w p t r v xs) : w.cell? ⟨p, 0, none⟩ = some v ∧ w.frozen? ⟨p, 0, none⟩ = false := by
  have := h.box
  simp [World.cell?, World.frozen?, this]
theorem RwAt.old {w w' : World} {p : Nat} {t : TypeId} {r : List Value} {v : Value} {xs : List Int} (h : RwAt w p t r v xs) (ht : Touch nob w w') : RwAt w' p t r v xs := ⟨blk_touch h.box ht (fun x => x), h.row.old ht, h.ty, h.len⟩
theorem RwAt.put {w : World} {p : Nat} {t : TypeId} {r : List Value} {v v' : Value} {xs ys : List Int} (h : RwAt w p t r v xs) (hs : SlAt w v' ys) (hl : ys.length ≤ 4096) : RwAt (w.setCell ⟨p, 0, none⟩ v') p t r v' ys :=
  ⟨blk_set h.box (by simp), hs.set h.box h.ty 0 v', h.ty, hl⟩

theorem row_count {w : World} {p : Nat} {t : TypeId} {r : List Value} {v : Value} {xs : List Int} (h : RwAt w p t r v xs) :
    Calls Tryz.prog 69 #[.pointer (some ⟨p, 0, none⟩)] w fun e w' => e = .returned (.int .i64 xs.length) ∧ w = w' := by
  obtain ⟨c0, f0⟩ := h.cell
  obtain ⟨ao, cap, rfl, _⟩ := h.row.len
  have hl := h.len
  clear h
  go_enter Tryz.func69, Tryz.ntmps69
  go_wp2
  go_ret
  exact ⟨rfl, rfl⟩
theorem row_take_no {w : World} {p : Nat} {t : TypeId} {r : List Value} {v : Value} (h : RwAt w p t r v []) :
    Calls Tryz.prog 70 #[.pointer (some ⟨p, 0, none⟩)] w fun e w' => e = .returned (.tuple #[.int .i64 0, .bool false]) ∧ w = w' := by
  obtain ⟨c0, f0⟩ := h.cell
  obtain ⟨ao, cap, hv, _⟩ := h.row.len
  rw [List.length_nil] at hv
  subst hv
  clear h
  go_enter Tryz.func70, Tryz.ntmps70
  go_wp2
  go_ret2
  exact ⟨rfl, rfl⟩
theorem row_take_ok {w : World} {p : Nat} {t : TypeId} {r : List Value} {v : Value} {x : Int} {xs : List Int} (h : RwAt w p t r v (x :: xs)) :
    Calls Tryz.prog 70 #[.pointer (some ⟨p, 0, none⟩)] w fun e w' => e = .returned (.tuple #[.int .i64 x, .bool true]) ∧ ∃ v', w' = w.setCell ⟨p, 0, none⟩ v' ∧ RwAt w' p t r v' xs ∧ SubB w v' v := by
  obtain ⟨c0, f0⟩ := h.cell
  have hr := h.row
  rcases h.row with ⟨_, h0⟩ | ⟨g, o, cap, cur, rfl, h1, h2, h3⟩
  · cases h0
  have hx := hr.cell (j := 0) (by simp)
  have hgp := hr.ne h.box h.ty g rfl
  have hl := h.len
  simp only [Nat.add_zero, List.length_cons] at hx h1 hl c0
  have H := Lib.hid (And.intro h hr)
  clear h hr h2 h3
  go_enter Tryz.func70, Tryz.ntmps70
  go_wp2
  · go_ret2
    obtain ⟨h, hr⟩ := H.out
    refine ⟨rfl, _, rfl, h.put ?_ (by omega), fun b hb => by cases hb; exact .inl rfl⟩
    have hc : cap = 1 := by omega
    have hx0 : xs = [] := List.eq_nil_of_length_eq_zero (by omega)
    have := hr.tail (g' := g) (o' := o) rfl (.inl hx0)
    simpa [hc] using this
  · go_ret2
    obtain ⟨h, hr⟩ := H.out
    refine ⟨rfl, _, rfl, h.put ?_ (by omega), fun b hb => by cases hb; exact .inl rfl⟩
    have := hr.tail (g' := g) (o' := o + 1) rfl (.inr rfl)
    simpa using this
theorem row_all {w : World} {p : Nat} {t : TypeId} {r : List Value} {v : Value} {xs : List Int} (h : RwAt w p t r v xs) :
    Calls Tryz.prog 65 #[.pointer (some ⟨p, 0, none⟩)] w fun e w' => ∃ v', e = .returned v' ∧ Touch nob w w' ∧ SlAt w' v' xs ∧ SubB w v' (.slice none 0 0) := by
  obtain ⟨c0, f0⟩ := h.cell
  have H := Lib.hid h
  clear h
  go_enter Tryz.func65, Tryz.ntmps65
  go_wp2_with (go_at_call 98; refine (clone_slE H.out.row (by have := H.out.len; omega)).mono ?_; rintro e w1 ⟨v', rfl, h1, h2, h3⟩)
  go_ret
  exact ⟨v', rfl, h1, h2, h3⟩
/-- What stands behind the append. -/
structure Grew (w : World) (p : Nat) (t : TypeId) (r : List Value) (v : Value) (ys : List Int) (g cap : Nat) (w1 : World) : Prop where
  touch : Touch nob w w1
  row : SlAt w1 (.slice (some ⟨g, 0, none⟩) ys.length cap) ys
  box : w1.heap[p]? = some (.cells (v :: r).toArray t)
  new : w.heap.size ≤ g
theorem grew {w : World} {p : Nat} {t : TypeId} {r : List Value} {v v' : Value} {xs : List Int} {x : Int} {w1 : World} {u : Obj} {base : Nat} (h : RwAt w p t r v xs) (hbase : w.heap.size ≤ base) (hown : w1.ownsRow base 3 1 v' (xs.length + 1) (xs.map (.int .i64) ++ [.int .i64 x])) (hg : (w.alloc u).drew.grownBy w1 none) :
    ∃ g cap, v' = .slice (some ⟨g, 0, none⟩) (xs.length + 1) cap ∧ Hid (Grew w p t r v (xs ++ [x]) g cap w1) ∧ w1.cell? ⟨p, 0, none⟩ = some v ∧ w1.frozen? ⟨p, 0, none⟩ = false := by
  obtain ⟨g, cap, rfl, hb, hr, hl, _⟩ := RowAt.of_owns_some hown (by omega)
  have hT : Touch nob w w1 := Touch.grown ((Touch.refl nob w).alloc u).drew hg (fun _ h => by cases h)
  have hbox := blk_touch h.box hT (fun x => x)
  refine ⟨g, cap, rfl, ⟨hT, ?_, hbox, Nat.le_trans hbase hb⟩, by simp [World.cell?, hbox], by simp [World.frozen?, hbox]⟩
  have hown' : w1.ownsRow base 3 1 (.slice (some ⟨g, 0, none⟩) (xs.length + 1) cap) (xs.length + 1) ((xs ++ [x]).map (.int .i64)) := by rw [List.map_append]; exact hown
  have := SlAt.of_owns hown'
  rw [List.length_append]
  exact this
end Go.Proofs.YtnobempbcdkoaaaGreatDoor
namespace Go.Proofs.YtnobempbcdkoaaaGreatDoor
open Go.RowKit

attribute [local go_sem ↓ high] builtin_appd

theorem grew_fin {w : World} {p : Nat} {t : TypeId} {r : List Value} {v : Value} {ys : List Int} {g cap n : Nat} {w1 : World} (h : Grew w p t r v ys g cap w1) (ht : t ≠ 3) (hl : ys.length ≤ 4096) (hn : n = ys.length) :
    ∃ v' w1', Touch nob w w1' ∧ w1.setCell ⟨p, 0, none⟩ (.slice (some ⟨g, 0, none⟩) n cap) = w1'.setCell ⟨p, 0, none⟩ v' ∧ RwAt (w1.setCell ⟨p, 0, none⟩ (.slice (some ⟨g, 0, none⟩) n cap)) p t r v' ys ∧ SubB w v' v := by
  subst hn
  exact ⟨_, w1, h.touch, rfl, ⟨blk_set h.box (by simp), h.row.set h.box ht 0 _, ht, hl⟩, fun b hb => by cases hb; exact .inr h.new⟩

set_option maxHeartbeats 4000000 in
theorem row_add {w : World} {p : Nat} {t : TypeId} {r : List Value} {v : Value} {xs : List Int} (h : RwAt w p t r v xs) (x : Int) (hx : xs.length < 4096) :
    Calls Tryz.prog 109 #[.pointer (some ⟨p, 0, none⟩), .int .i64 x] w fun e w' => e = .returned (.tuple #[]) ∧ ∃ v' w1, Touch nob w w1 ∧ w' = w1.setCell ⟨p, 0, none⟩ v' ∧ RwAt w' p t r v' (xs ++ [x]) ∧ SubB w v' v := by
  obtain ⟨i0, hi, hz0, hz1, hz2⟩ := info_parts info_int2
  have hp := blk_lt h.box
  have hr := h.row
  rcases h.row with ⟨rfl, rfl⟩ | ⟨g, o, cap, cur, rfl, h1, h2, h3⟩
  · obtain ⟨c0, f0⟩ := h.cell
    obtain ⟨v1, w3, hrun, hown, hgrow, _⟩ := run_append_own (P := Tryz.prog) (w.alloc (Obj.cells #[.int .i64 x] 3)).drew (w.alloc (Obj.cells #[.int .i64 x] 3)).drew.heap.size 28 28 3 i0 (.int .i64 0) 1 8 Tryz.underlying28 hi hz0 hz1 hz2 rfl (by decide) (.slice none 0 0) 0 [] (World.ownsRow_nil _ _ _ _)
      ⟨w.heap.size, 0, none⟩ 1 1 [.int .i64 x] rfl (World.news_of_block (World.alloc_heap_new _ _)) (ints_oneCell _ [x]) (by unfold maxLen; omega) (by omega) (Nat.le_refl _)
    obtain ⟨g', cap', rfl, HG, dd0, ee0⟩ := grew h (by show w.heap.size ≤ (w.alloc _).heap.size; rw [World.size_alloc]; omega) hown hgrow
    change (Appd _ _ _).run _ _ = _ at hrun
    have H := Lib.hid (And.intro h hr)
    clear h hr hown hgrow
    go_enter Tryz.func109, Tryz.ntmps109
    go_wp2_with fail
    go_region
    all_goals
      go_end0
      exact ⟨rfl, grew_fin HG.out H.out.1.ty (by simp) (by simp)⟩
  · obtain ⟨c0, f0⟩ := h.cell
    have hgl := blk_lt h2
    have HC := Lib.hid (fun j u (hj : (xs.map (Value.int .i64))[j]? = some u) => show w.cell? ⟨g, o + j, none⟩ = some u by
      obtain ⟨hl, rfl⟩ := List.getElem?_eq_some_iff.1 hj
      simp only [List.length_map] at hl
      rw [hr.cell hl]
      simp [List.getD_eq_getElem?_getD, hl])
    obtain ⟨v1, w3, hrun, hown, hgrow⟩ := run_append_arg_grows (P := Tryz.prog) (w.alloc (Obj.cells #[.int .i64 x] 3)).drew 28 28 3 i0 (.int .i64 0) 1 8 Tryz.underlying28 hi hz0 hz1 hz2 rfl (by decide) ⟨g, o, none⟩ xs.length xs.length (xs.map (.int .i64)) (by simp)
      (by intro j u hj; rw [Addr.add_lit]; exact (World.cell?_of_block (a := ⟨g, o + j, none⟩) (Below.heap_alloc _ _ _ hgl)).trans (HC.out j u hj)) ⟨w.heap.size, 0, none⟩ 1 1 [.int .i64 x] rfl (World.news_of_block (World.alloc_heap_new _ _)) (by omega) (by unfold maxLen; omega) (by omega)
    obtain ⟨g', cap', rfl, HG, dd0, ee0⟩ := grew h (by show w.heap.size ≤ (w.alloc _).heap.size; rw [World.size_alloc]; omega) hown hgrow
    change (Appd _ _ _).run _ _ = _ at hrun
    have H := Lib.hid (And.intro h hr)
    clear h hr h2 h3 hown hgrow
    go_enter Tryz.func109, Tryz.ntmps109
    go_wp2_with fail
    go_region
    all_goals
      go_end0
      exact ⟨rfl, grew_fin HG.out H.out.1.ty (by simp; omega) (by simp)⟩
end Go.Proofs.YtnobempbcdkoaaaGreatDoor
namespace Go.Proofs.YtnobempbcdkoaaaGreatDoor
open Go.RowKit

abbrev BufAt (w : World) (p : Nat) (room : Int) (v : Value) (xs : List Int) : Prop := RwAt w p 128 [.int .i64 room] v xs
abbrev BoxAt (w : World) (p : Nat) (v : Value) (xs : List Int) : Prop := RwAt w p 130 [] v xs
theorem buf_cells {w : World} {p : Nat} {room : Int} {v : Value} {xs : List Int} (h : BufAt w p room v xs) : w.cell? ⟨p, 0, none⟩ = some v ∧ w.cell? ⟨p, 1, none⟩ = some (.int .i64 room) ∧ w.frozen? ⟨p, 0, none⟩ = false := by
  have := h.box
  simp [World.cell?, World.frozen?, this]

theorem log_New_ok (n : Int) (h0 : 1 ≤ n) (h1 : n ≤ 256) (w : World) :
    Calls Tryz.prog 61 #[.int .i64 n] w fun e w' => ∃ p, e = .returned (.tuple #[.pointer (some ⟨p, 0, none⟩), .int .i64 0]) ∧ w.heap.size ≤ p ∧ Touch nob w w' ∧ BufAt w' p n (.slice none 0 0) [] := by
  go_enter Tryz.func61, Tryz.ntmps61
  go_wp2
  go_ret2
  exact ⟨_, rfl, Nat.le_refl _, (Touch.refl _ _).alloc _, World.alloc_heap_new _ _, SlAt.nil _, by decide, by simp⟩
theorem log_New_no (n : Int) (hn : n < 1 ∨ 256 < n) (w : World) :
    Calls Tryz.prog 61 #[.int .i64 n] w fun e w' => e = .returned (.tuple #[.pointer none, .int .i64 4]) ∧ w = w' := by
  rcases hn with h | h
  all_goals
    go_enter Tryz.func61, Tryz.ntmps61
    go_wp2
    go_ret2
    exact ⟨rfl, rfl⟩
theorem log_NewBox (w : World) :
    Calls Tryz.prog 62 #[] w fun e w' => ∃ p, e = .returned (.pointer (some ⟨p, 0, none⟩)) ∧ w.heap.size ≤ p ∧ Touch nob w w' ∧ BoxAt w' p (.slice none 0 0) [] := by
  go_enter Tryz.func62, Tryz.ntmps62
  go_wp2
  go_ret
  exact ⟨_, rfl, Nat.le_refl _, (Touch.refl _ _).alloc _, World.alloc_heap_new _ _, SlAt.nil _, by decide, by simp⟩

variable {w : World} {p q : Nat} {room : Int} {v u : Value} {xs ys : List Int}
theorem buf_Full (h : BufAt w p room v xs) :
    Calls Tryz.prog 68 #[.pointer (some ⟨p, 0, none⟩)] w fun e w' => e = .returned (.bool (((xs.length : Nat) : Int) == room)) ∧ Touch nob w w' := by
  have HH := Lib.hid (fun n => h.old ((Touch.refl nob w).drewN n))
  obtain ⟨c0, c1, f0⟩ := buf_cells h
  clear h
  go_enter Tryz.func68, Tryz.ntmps68
  go_wp2_with fail
  go_quiet ((go_at_call 69; exact Calls.quiet_of_same ((row_count (HH.out _)).mono fun _ _ h => ⟨h.1, h.2.symm⟩)))
  go_wp2
  go_ret
  exact ⟨rfl, (Touch.refl _ _).drewN _⟩
theorem buf_Len (h : BufAt w p room v xs) :
    Calls Tryz.prog 33 #[.pointer (some ⟨p, 0, none⟩)] w fun e w' => e = .returned (.int .i64 xs.length) ∧ w = w' := by
  go_enter Tryz.func33, Tryz.ntmps33
  go_wp2_with (go_at_call 69; refine (row_count h).mono ?_; rintro e w' ⟨rfl, rfl⟩)
  go_ret
  exact ⟨rfl, rfl⟩
theorem box_Len (h : BoxAt w q v xs) :
    Calls Tryz.prog 37 #[.pointer (some ⟨q, 0, none⟩)] w fun e w' => e = .returned (.int .i64 xs.length) ∧ w = w' := by
  go_enter Tryz.func37, Tryz.ntmps37
  go_wp2_with (go_at_call 69; refine (row_count h).mono ?_; rintro e w' ⟨rfl, rfl⟩)
  go_ret
  exact ⟨rfl, rfl⟩
theorem buf_All (h : BufAt w p room v xs) :
    Calls Tryz.prog 30 #[.pointer (some ⟨p, 0, none⟩)] w fun e w' => ∃ v', e = .returned v' ∧ Touch nob w w' ∧ SlAt w' v' xs := by
  go_enter Tryz.func30, Tryz.ntmps30
  go_wp2_with (go_at_call 65; refine (row_all h).mono ?_; rintro e w1 ⟨v', rfl, h1, h2, _⟩)
  go_ret
  exact ⟨v', rfl, h1, h2⟩
theorem buf_Next_no (h : BufAt w p room v []) :
    Calls Tryz.prog 112 #[.pointer (some ⟨p, 0, none⟩)] w fun e w' => e = .returned (.tuple #[.int .i64 0, .bool false]) ∧ w = w' := by
  go_enter Tryz.func112, Tryz.ntmps112
  go_wp2_with (go_at_call 70; refine (row_take_no h).mono ?_; rintro e w' ⟨rfl, rfl⟩)
  go_ret2
  exact ⟨rfl, rfl⟩
theorem box_Next_no (h : BoxAt w q v []) :
    Calls Tryz.prog 34 #[.pointer (some ⟨q, 0, none⟩)] w fun e w' => e = .returned (.tuple #[.int .i64 0, .bool false]) ∧ w = w' := by
  go_enter Tryz.func34, Tryz.ntmps34
  go_wp2_with (go_at_call 70; refine (row_take_no h).mono ?_; rintro e w' ⟨rfl, rfl⟩)
  go_ret2
  exact ⟨rfl, rfl⟩
theorem buf_Next_ok {x : Int} (h : BufAt w p room v (x :: xs)) :
    Calls Tryz.prog 112 #[.pointer (some ⟨p, 0, none⟩)] w fun e w' => e = .returned (.tuple #[.int .i64 x, .bool true]) ∧ Touch (fun b => b = p) w w' ∧ ∃ v', BufAt w' p room v' xs ∧ SubB w v' v := by
  go_enter Tryz.func112, Tryz.ntmps112
  go_wp2_with (go_at_call 70; refine (row_take_ok h).mono ?_; rintro e w1 ⟨rfl, v', rfl, h1, h2⟩)
  go_ret2
  exact ⟨rfl, touch_set _ _ _ _, v', h1, h2⟩
theorem box_Next_ok {x : Int} (h : BoxAt w q v (x :: xs)) :
    Calls Tryz.prog 34 #[.pointer (some ⟨q, 0, none⟩)] w fun e w' => e = .returned (.tuple #[.int .i64 x, .bool true]) ∧ Touch (fun b => b = q) w w' ∧ ∃ v', BoxAt w' q v' xs ∧ SubB w v' v := by
  go_enter Tryz.func34, Tryz.ntmps34
  go_wp2_with (go_at_call 70; refine (row_take_ok h).mono ?_; rintro e w1 ⟨rfl, v', rfl, h1, h2⟩)
  go_ret2
  exact ⟨rfl, touch_set _ _ _ _, v', h1, h2⟩
theorem buf_Clear (h : BufAt w p room v xs) :
    Calls Tryz.prog 110 #[.pointer (some ⟨p, 0, none⟩)] w fun e w' => e = .returned (.tuple #[]) ∧ Touch (fun b => b = p) w w' ∧ BufAt w' p room (.slice none 0 0) [] := by
  obtain ⟨c0, c1, f0⟩ := buf_cells h
  have H := Lib.hid h
  clear h
  go_enter Tryz.func110, Tryz.ntmps110
  go_wp2
  go_end0
  exact ⟨rfl, touch_set _ _ _ _, H.out.put (SlAt.nil _) (by simp)⟩
theorem buf_Add_no (h : BufAt w p room v xs) (x : Int) (hr : (((xs.length : Nat) : Int) == room) = true) :
    Calls Tryz.prog 63 #[.pointer (some ⟨p, 0, none⟩), .int .i64 x] w fun e w' => e = .returned (.bool false) ∧ Touch nob w w' := by
  go_enter Tryz.func63, Tryz.ntmps63
  go_wp2_with (go_at_call 68; fail)
  refine (buf_Full h).mono ?_
  rintro e w1 ⟨rfl, hT⟩
  rw [hr]
  go_wp2
  go_ret
  exact ⟨rfl, hT⟩
theorem buf_Add_ok (h : BufAt w p room v xs) (x : Int) (hr : (((xs.length : Nat) : Int) == room) = false) (hl : xs.length < 4096) :
    Calls Tryz.prog 63 #[.pointer (some ⟨p, 0, none⟩), .int .i64 x] w fun e w' => e = .returned (.bool true) ∧ Touch (fun b => b = p) w w' ∧ ∃ v', BufAt w' p room v' (xs ++ [x]) ∧ SubB w v' v := by
  go_enter Tryz.func63, Tryz.ntmps63
  go_wp2_with (go_at_call 68; fail)
  refine (buf_Full h).mono ?_
  rintro e w1 ⟨rfl, hT⟩
  rw [hr]
  go_wp2_with (go_at_call 109; fail)
  refine (row_add (h.old hT) x hl).mono ?_
  rintro e w2 ⟨rfl, v', w3, hT3, rfl, h3, h4⟩
  go_wp2
  go_ret
  exact ⟨rfl, Touch.setCell (S := fun b => b = p) ((hT.trans hT3).mono (fun _ _ h => h.elim)) (.inl rfl) _, v', h3, fun b hb => (h4 b hb).imp id (Nat.le_trans hT.size)⟩
theorem buf_ne (h : BufAt w p room v xs) (g : BoxAt w q u ys) : p ≠ q := by
  rintro rfl
  have := h.box.symm.trans g.box
  simp at this
theorem box_Hand_no {y : Int} (_ : BufAt w p room v xs) (g : BoxAt w q u (y :: ys)) :
    Calls Tryz.prog 64 #[.pointer (some ⟨q, 0, none⟩), .pointer (some ⟨p, 0, none⟩)] w fun e w' => e = .returned (.bool false) ∧ w = w' := by
  go_enter Tryz.func64, Tryz.ntmps64
  go_wp2_with (go_at_call 69; fail)
  refine (row_count g).mono ?_
  rintro e w1 ⟨rfl, rfl⟩
  have hl : (0 : Int) < (((y :: ys).length : Nat) : Int) := by simp
  obtain ⟨n, hn⟩ : ∃ n, (y :: ys).length = n := ⟨_, rfl⟩
  rw [hn] at hl ⊢
  go_wp2
  go_ret
  exact ⟨rfl, rfl⟩
theorem box_Hand_ok (h : BufAt w p room v xs) (g : BoxAt w q u []) :
    Calls Tryz.prog 64 #[.pointer (some ⟨q, 0, none⟩), .pointer (some ⟨p, 0, none⟩)] w fun e w' => e = .returned (.bool true) ∧ Touch (fun b => b = p ∨ b = q) w w' ∧ ∃ u', BufAt w' p room (.slice none 0 0) [] ∧ BoxAt w' q u' xs ∧ SubB w u' (.slice none 0 0) := by
  have hne := buf_ne h g
  go_enter Tryz.func64, Tryz.ntmps64
  go_wp2_with (go_at_call 69; fail)
  refine (row_count g).mono ?_
  rintro e w1 ⟨rfl, rfl⟩
  rw [List.length_nil]
  go_wp2_with (go_at_call 65; fail)
  refine (row_all h).mono ?_
  rintro e w1 ⟨v', rfl, hT, hS, hB⟩
  obtain ⟨ao, cap, rfl, _⟩ := hS.len
  have g1 := g.old hT
  have h1 := h.old hT
  obtain ⟨c0, f0⟩ := g1.cell
  have HX := Lib.hid (And.intro h1 (And.intro g1 (And.intro hS hT)))
  clear h g h1 g1 hS hT
  go_wp2_with (go_at_call 110; fail)
  obtain ⟨h1, g1, hS, hT⟩ := HX.out
  have hh : BufAt (w1.setCell ⟨q, 0, none⟩ (.slice ao xs.length cap)) p room v xs := ⟨(set_other _ hne).trans h1.box, h1.row.set g1.box g1.ty 0 _, h1.ty, h1.len⟩
  have gg : BoxAt (w1.setCell ⟨q, 0, none⟩ (.slice ao xs.length cap)) q (.slice ao xs.length cap) xs := g1.put hS h1.len
  refine (buf_Clear hh).mono ?_
  rintro e w2 ⟨rfl, hT2, h2⟩
  have g2 : BoxAt w2 q (.slice ao xs.length cap) xs := ⟨blk_touch gg.box hT2 (fun e => hne e.symm), gg.row.touch hT2 (gg.row.ne hh.box hh.ty), gg.ty, gg.len⟩
  have hTT : Touch (fun b => b = p ∨ b = q) w w2 := by
    have h9 : Touch (fun b => b = p ∨ b = q) w (w1.setCell ⟨q, 0, none⟩ (.slice ao xs.length cap)) := Touch.setCell (S := fun b => b = p ∨ b = q) (hT.mono (fun _ _ h => h.elim)) (.inl (.inr rfl)) _
    exact h9.step hT2 (fun i hi => .inl (.inl hi))
  clear h1 g1 hS hT hh gg hT2 HX c0 f0
  go_wp2
  go_ret
  exact ⟨rfl, hTT, _, h2, g2, hB⟩
end Go.Proofs.YtnobempbcdkoaaaGreatDoor
