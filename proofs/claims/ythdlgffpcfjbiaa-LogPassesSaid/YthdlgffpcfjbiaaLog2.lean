/- The log's functions, walked. Conditions: none beyond what each says. -/
import Derived.Test.YthdlgffpcfjbiaaLogAdd
namespace Go.Proofs.Ythdlgffpcfjbiaa
open Go.RowKit

abbrev BufAt (w : World) (p : Nat) (room : Int) (v : Value) (xs : List Int) : Prop := RwAt w p 82 [.int .i64 room] v xs
abbrev BoxAt (w : World) (p : Nat) (v : Value) (xs : List Int) : Prop := RwAt w p 84 [] v xs
theorem buf_cells {w : World} {p : Nat} {room : Int} {v : Value} {xs : List Int} (h : BufAt w p room v xs) : w.cell? ⟨p, 0, none⟩ = some v ∧ w.cell? ⟨p, 1, none⟩ = some (.int .i64 room) ∧ w.frozen? ⟨p, 0, none⟩ = false := by
  have := h.box
  simp [World.cell?, World.frozen?, this]

theorem log_New_ok (n : Int) (h0 : 1 ≤ n) (h1 : n ≤ 256) (w : World) :
    Calls Try.prog 28 #[.int .i64 n] w fun e w' => ∃ p, e = .returned (.tuple #[.pointer (some ⟨p, 0, none⟩), .int .i64 0]) ∧ w.heap.size ≤ p ∧ Touch nob w w' ∧ BufAt w' p n (.slice none 0 0) [] := by
  go_enter Try.func28, Try.ntmps28
  go_wp2
  go_ret2
  exact ⟨_, rfl, Nat.le_refl _, (Touch.refl _ _).alloc _, World.alloc_heap_new _ _, SlAt.nil _, by decide, by simp⟩
theorem log_New_no (n : Int) (hn : n < 1 ∨ 256 < n) (w : World) :
    Calls Try.prog 28 #[.int .i64 n] w fun e w' => e = .returned (.tuple #[.pointer none, .int .i64 4]) ∧ w = w' := by
  rcases hn with h | h
  all_goals
    go_enter Try.func28, Try.ntmps28
    go_wp2
    go_ret2
    exact ⟨rfl, rfl⟩
theorem log_NewBox (w : World) :
    Calls Try.prog 29 #[] w fun e w' => ∃ p, e = .returned (.pointer (some ⟨p, 0, none⟩)) ∧ w.heap.size ≤ p ∧ Touch nob w w' ∧ BoxAt w' p (.slice none 0 0) [] := by
  go_enter Try.func29, Try.ntmps29
  go_wp2
  go_ret
  exact ⟨_, rfl, Nat.le_refl _, (Touch.refl _ _).alloc _, World.alloc_heap_new _ _, SlAt.nil _, by decide, by simp⟩

variable {w : World} {p q : Nat} {room : Int} {v u : Value} {xs ys : List Int}
theorem buf_Full (h : BufAt w p room v xs) :
    Calls Try.prog 30 #[.pointer (some ⟨p, 0, none⟩)] w fun e w' => e = .returned (.bool (((xs.length : Nat) : Int) == room)) ∧ Touch nob w w' := by
  have HH := Lib.hid (fun n => h.old ((Touch.refl nob w).drewN n))
  obtain ⟨c0, c1, f0⟩ := buf_cells h
  clear h
  go_enter Try.func30, Try.ntmps30
  go_wp2_with fail
  go_quiet ((go_at_call 56; exact Calls.quiet_of_same ((row_count (HH.out _)).mono fun _ _ h => ⟨h.1, h.2.symm⟩)))
  go_wp2
  go_ret
  exact ⟨rfl, (Touch.refl _ _).drewN _⟩
theorem buf_Len (h : BufAt w p room v xs) :
    Calls Try.prog 34 #[.pointer (some ⟨p, 0, none⟩)] w fun e w' => e = .returned (.int .i64 xs.length) ∧ w = w' := by
  go_enter Try.func34, Try.ntmps34
  go_wp2_with (go_at_call 56; refine (row_count h).mono ?_; rintro e w' ⟨rfl, rfl⟩)
  go_ret
  exact ⟨rfl, rfl⟩
theorem box_Len (h : BoxAt w q v xs) :
    Calls Try.prog 42 #[.pointer (some ⟨q, 0, none⟩)] w fun e w' => e = .returned (.int .i64 xs.length) ∧ w = w' := by
  go_enter Try.func42, Try.ntmps42
  go_wp2_with (go_at_call 56; refine (row_count h).mono ?_; rintro e w' ⟨rfl, rfl⟩)
  go_ret
  exact ⟨rfl, rfl⟩
theorem buf_All (h : BufAt w p room v xs) :
    Calls Try.prog 43 #[.pointer (some ⟨p, 0, none⟩)] w fun e w' => ∃ v', e = .returned v' ∧ Touch nob w w' ∧ SlAt w' v' xs := by
  go_enter Try.func43, Try.ntmps43
  go_wp2_with (go_at_call 58; refine (row_all h).mono ?_; rintro e w1 ⟨v', rfl, h1, h2, _⟩)
  go_ret
  exact ⟨v', rfl, h1, h2⟩
theorem buf_Next_no (h : BufAt w p room v []) :
    Calls Try.prog 40 #[.pointer (some ⟨p, 0, none⟩)] w fun e w' => e = .returned (.tuple #[.int .i64 0, .bool false]) ∧ w = w' := by
  go_enter Try.func40, Try.ntmps40
  go_wp2_with (go_at_call 57; refine (row_take_no h).mono ?_; rintro e w' ⟨rfl, rfl⟩)
  go_ret2
  exact ⟨rfl, rfl⟩
theorem box_Next_no (h : BoxAt w q v []) :
    Calls Try.prog 31 #[.pointer (some ⟨q, 0, none⟩)] w fun e w' => e = .returned (.tuple #[.int .i64 0, .bool false]) ∧ w = w' := by
  go_enter Try.func31, Try.ntmps31
  go_wp2_with (go_at_call 57; refine (row_take_no h).mono ?_; rintro e w' ⟨rfl, rfl⟩)
  go_ret2
  exact ⟨rfl, rfl⟩
theorem buf_Next_ok {x : Int} (h : BufAt w p room v (x :: xs)) :
    Calls Try.prog 40 #[.pointer (some ⟨p, 0, none⟩)] w fun e w' => e = .returned (.tuple #[.int .i64 x, .bool true]) ∧ Touch (fun b => b = p) w w' ∧ ∃ v', BufAt w' p room v' xs ∧ SubB w v' v := by
  go_enter Try.func40, Try.ntmps40
  go_wp2_with (go_at_call 57; refine (row_take_ok h).mono ?_; rintro e w1 ⟨rfl, v', rfl, h1, h2⟩)
  go_ret2
  exact ⟨rfl, touch_set _ _ _ _, v', h1, h2⟩
theorem box_Next_ok {x : Int} (h : BoxAt w q v (x :: xs)) :
    Calls Try.prog 31 #[.pointer (some ⟨q, 0, none⟩)] w fun e w' => e = .returned (.tuple #[.int .i64 x, .bool true]) ∧ Touch (fun b => b = q) w w' ∧ ∃ v', BoxAt w' q v' xs ∧ SubB w v' v := by
  go_enter Try.func31, Try.ntmps31
  go_wp2_with (go_at_call 57; refine (row_take_ok h).mono ?_; rintro e w1 ⟨rfl, v', rfl, h1, h2⟩)
  go_ret2
  exact ⟨rfl, touch_set _ _ _ _, v', h1, h2⟩
theorem buf_Clear (h : BufAt w p room v xs) :
    Calls Try.prog 41 #[.pointer (some ⟨p, 0, none⟩)] w fun e w' => e = .returned (.tuple #[]) ∧ Touch (fun b => b = p) w w' ∧ BufAt w' p room (.slice none 0 0) [] := by
  obtain ⟨c0, c1, f0⟩ := buf_cells h
  have H := Lib.hid h
  clear h
  go_enter Try.func41, Try.ntmps41
  go_wp2
  go_end0
  exact ⟨rfl, touch_set _ _ _ _, H.out.put (SlAt.nil _) (by simp)⟩
theorem buf_Add_no (h : BufAt w p room v xs) (x : Int) (hr : (((xs.length : Nat) : Int) == room) = true) :
    Calls Try.prog 33 #[.pointer (some ⟨p, 0, none⟩), .int .i64 x] w fun e w' => e = .returned (.bool false) ∧ Touch nob w w' := by
  go_enter Try.func33, Try.ntmps33
  go_wp2_with (go_at_call 30; fail)
  refine (buf_Full h).mono ?_
  rintro e w1 ⟨rfl, hT⟩
  rw [hr]
  go_wp2
  go_ret
  exact ⟨rfl, hT⟩
theorem buf_Add_ok (h : BufAt w p room v xs) (x : Int) (hr : (((xs.length : Nat) : Int) == room) = false) (hl : xs.length < 4096) :
    Calls Try.prog 33 #[.pointer (some ⟨p, 0, none⟩), .int .i64 x] w fun e w' => e = .returned (.bool true) ∧ Touch (fun b => b = p) w w' ∧ ∃ v', BufAt w' p room v' (xs ++ [x]) ∧ SubB w v' v := by
  go_enter Try.func33, Try.ntmps33
  go_wp2_with (go_at_call 30; fail)
  refine (buf_Full h).mono ?_
  rintro e w1 ⟨rfl, hT⟩
  rw [hr]
  go_wp2_with (go_at_call 59; fail)
  refine (row_add (h.old hT) x hl).mono ?_
  rintro e w2 ⟨rfl, v', w3, hT3, rfl, h3, h4⟩
  go_wp2
  go_ret
  exact ⟨rfl, Touch.setCell (S := fun b => b = p) ((hT.trans hT3).mono (fun _ _ h => h.elim)) (.inl rfl) _, v', h3, fun b hb => (h4 b hb).imp id (Nat.le_trans hT.size)⟩
theorem buf_ne (h : BufAt w p room v xs) (g : BoxAt w q u ys) : p ≠ q := by
  rintro rfl
  have := h.box.symm.trans g.box
  simp at this
theorem box_Hand_no {y : Int} (_ : BufAt w p room v xs) (g : BoxAt w q u (y :: ys)) :
    Calls Try.prog 32 #[.pointer (some ⟨q, 0, none⟩), .pointer (some ⟨p, 0, none⟩)] w fun e w' => e = .returned (.bool false) ∧ w = w' := by
  go_enter Try.func32, Try.ntmps32
  go_wp2_with (go_at_call 56; fail)
  refine (row_count g).mono ?_
  rintro e w1 ⟨rfl, rfl⟩
  have hl : (0 : Int) < (((y :: ys).length : Nat) : Int) := by simp
  obtain ⟨n, hn⟩ : ∃ n, (y :: ys).length = n := ⟨_, rfl⟩
  rw [hn] at hl ⊢
  go_wp2
  go_ret
  exact ⟨rfl, rfl⟩
theorem box_Hand_ok (h : BufAt w p room v xs) (g : BoxAt w q u []) :
    Calls Try.prog 32 #[.pointer (some ⟨q, 0, none⟩), .pointer (some ⟨p, 0, none⟩)] w fun e w' => e = .returned (.bool true) ∧ Touch (fun b => b = p ∨ b = q) w w' ∧ ∃ u', BufAt w' p room (.slice none 0 0) [] ∧ BoxAt w' q u' xs ∧ SubB w u' (.slice none 0 0) := by
  have hne := buf_ne h g
  go_enter Try.func32, Try.ntmps32
  go_wp2_with (go_at_call 56; fail)
  refine (row_count g).mono ?_
  rintro e w1 ⟨rfl, rfl⟩
  rw [List.length_nil]
  go_wp2_with (go_at_call 58; fail)
  refine (row_all h).mono ?_
  rintro e w1 ⟨v', rfl, hT, hS, hB⟩
  obtain ⟨ao, cap, rfl, _⟩ := hS.len
  have g1 := g.old hT
  have h1 := h.old hT
  obtain ⟨c0, f0⟩ := g1.cell
  have HX := Lib.hid (And.intro h1 (And.intro g1 (And.intro hS hT)))
  clear h g h1 g1 hS hT
  go_wp2_with (go_at_call 41; fail)
  obtain ⟨h1, g1, hS, hT⟩ := HX.out
  have hh : BufAt (w1.setCell ⟨q, 0, none⟩ (.slice ao xs.length cap)) p room v xs := ⟨(set_other _ hne).trans h1.box, h1.row.set g1.box g1.ty 0 _, h1.ty, h1.len⟩
  have gg : BoxAt (w1.setCell ⟨q, 0, none⟩ (.slice ao xs.length cap)) q (.slice ao xs.length cap) xs := g1.put hS h1.len
  refine (buf_Clear hh).mono ?_
  rintro e w2 ⟨rfl, hT2, h2⟩
  have g2 : BoxAt w2 q (.slice ao xs.length cap) xs := ⟨blk_touch gg.box hT2 (fun e => hne e.symm), gg.row.touch hT2 (gg.row.ne hh.box hh.ty), gg.ty, gg.len⟩
  have hTT : Touch (fun b => b = p ∨ b = q) w w2 := by
    have h9 : Touch (fun b => b = p ∨ b = q) w (w1.setCell ⟨q, 0, none⟩ (.slice ao xs.length cap)) := Touch.setCell (S := fun b => b = p ∨ b = q) (hT.mono (fun _ _ h => h.elim)) (.inl (.inr rfl)) _
    exact h9.step hT2 (fun i hi => .inl (.inl hi))
  clear h1 g1 hS hT hh gg hT2 HX c0 f0
  go_wp2
  go_ret
  exact ⟨rfl, hTT, _, h2, g2, hB⟩
end Go.Proofs.Ythdlgffpcfjbiaa
