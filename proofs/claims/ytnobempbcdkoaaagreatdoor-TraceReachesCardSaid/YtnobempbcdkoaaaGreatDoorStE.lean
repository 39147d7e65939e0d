/- The stack's functions, walked. Conditions: none beyond what each says. -/
import Derived.Test.YtnobempbcdkoaaaGreatDoorRf1
import Derived.Test.YtnobempbcdkoaaaGreatDoorSla
import Derived.BigQuiet
import Derived.BigRegion
import Derived.Deep.AppendLies
import Derived.Deep.Cut
import Derived.Deep.QuietTactic
import Derived.Deep.RegionLaw
namespace Go.Proofs.YtnobempbcdkoaaaGreatDoor
open Go.RowKit

theorem owns_lt {w : World} {base : Nat} {e : TypeId} {size : Nat} {v : Value} {n : Nat} {xs : List Value} (h : w.ownsRow base e size v n xs) {b : Nat} (hb : v.ownBlock = some b) : b < w.heap.size := (h.lt b hb).2
/-- A stack: its box, its numbers from the least one on, its footprint. -/
structure StackAt (w : World) (p : Nat) (F : Nat → Prop) (v : Value) (xs : List Int) (room : Int) (over : Bool) : Prop where
  box : w.heap[p]? = some (.cells #[v, .int .i64 room, .bool over] 170)
  own : w.ownsRow 0 3 1 v xs.length (xs.map (.int .i64))
  len : xs.length ≤ room ∧ room ≤ 4096
  fp : F p
  fv : ∀ b, v.ownBlock = some b → F b ∧ b ≠ p
theorem StackAt.touch {S : Nat → Prop} {w w' : World} {p : Nat} {F : Nat → Prop} {v : Value} {xs : List Int} {room : Int} {over : Bool} (h : StackAt w p F v xs room over) (ht : Touch S w w') (hs : ∀ b, F b → ¬ S b) : StackAt w' p F v xs room over :=
  ⟨blk_touch h.box ht (hs p h.fp), owns_touch h.own ht (fun b hb => hs b (h.fv b hb).1), h.len, h.fp, h.fv⟩
theorem StackAt.form {w : World} {p : Nat} {F : Nat → Prop} {v : Value} {xs : List Int} {room : Int} {over : Bool} (h : StackAt w p F v xs room over) : (v = .slice none 0 0 ∧ xs = []) ∨ ∃ g cap, v = .slice (some ⟨g, 0, none⟩) xs.length cap ∧ g ≠ p ∧ g < w.heap.size ∧ RowAt w g 3 cap (xs.map (.int .i64)) := by
  have ho := h.own
  rcases ho.2 with ⟨h1, h2⟩ | ⟨g, cap, cur, hv, hg, hh, r⟩
  · exact .inl ⟨h1, List.eq_nil_of_length_eq_zero h2⟩
  · subst hv
    exact .inr ⟨g, cap, rfl, (h.fv g rfl).2, blk_lt hh, (RowAt.of_owns ho).1⟩

theorem stack_New_ok (n : Int) (h0 : 1 ≤ n) (h1 : n ≤ 4096) (w : World) :
    Calls Tryz.prog 74 #[.int .i64 n] w fun e w' => e = .returned (.tuple #[.pointer (some ⟨w.heap.size, 0, none⟩), .int .i64 0]) ∧ Touch nob w w' ∧ StackAt w' w.heap.size (fun b => b = w.heap.size) (.slice none 0 0) [] n false := by
  go_enter Tryz.func74, Tryz.ntmps74
  go_wp2
  go_ret2
  exact ⟨rfl, (Touch.refl _ _).alloc _, World.alloc_heap_new _ _, World.ownsRow_nil _ _ _ _, ⟨by simp; omega, h1⟩, rfl, fun b hb => by cases hb⟩
theorem stack_New_no (n : Int) (hn : n < 1 ∨ 4096 < n) (w : World) :
    Calls Tryz.prog 74 #[.int .i64 n] w fun e w' => e = .returned (.tuple #[.pointer none, .int .i64 4]) ∧ w = w' := by
  rcases hn with h | h
  all_goals
    go_enter Tryz.func74, Tryz.ntmps74
    go_wp2
    go_ret2
    exact ⟨rfl, rfl⟩

theorem stack_Len (p : Nat) (F : Nat → Prop) (v : Value) (xs : List Int) (room : Int) (over : Bool) (w : World) (h : StackAt w p F v xs room over) :
    Calls Tryz.prog 147 #[.pointer (some ⟨p, 0, none⟩)] w fun e w' => e = .returned (.int .i64 xs.length) ∧ Touch nob w w' := by
  have hmf := hmkf
  have hl := h.len
  obtain ⟨l0, l1⟩ := hl
  go_enter Tryz.func147, Tryz.ntmps147
  go_wp2_with fail
  obtain ⟨W, hW⟩ : ∃ W, W = w.alloc (Obj.cells #[.pointer (some ⟨p, 0, none⟩)] 132) := ⟨_, rfl⟩
  obtain ⟨b, hb⟩ : ∃ b, b = w.heap.size := ⟨_, rfl⟩
  rw [← hW, ← hb]
  obtain ⟨c0, f0⟩ := box1 (show W.heap[b]? = some _ by rw [hW, hb]; exact World.alloc_heap_new w _)
  have hT : Touch nob w W := by rw [hW]; (repeat (first | with_reducible exact Touch.refl _ _ | with_reducible assumption | with_reducible apply Touch.alloc | with_reducible apply Touch.drewN | with_reducible apply Touch.drew | with_reducible refine Touch.setCell ?_ (.inr (by first | omega | (simp; done) | (simp; omega))) _))
  obtain ⟨d0, d1, d2, e0, e1, e2⟩ := box3 (h.touch hT (fun _ _ x => x)).box
  have hlen : ∃ ao cap, v = .slice ao xs.length cap := by
    rcases h.form with ⟨rfl, rfl⟩ | ⟨g, cap, rfl, _⟩
    · exact ⟨_, _, rfl⟩
    · exact ⟨_, _, rfl⟩
  obtain ⟨ao, cap, rfl⟩ := hlen
  clear hW h hb
  go_wp2
  go_ret
  exact ⟨rfl, hT⟩

theorem stack_Calm (p : Nat) (F : Nat → Prop) (v : Value) (xs : List Int) (room : Int) (over : Bool) (w : World) (h : StackAt w p F v xs room over) :
    Calls Tryz.prog 80 #[.pointer (some ⟨p, 0, none⟩)] w fun e w' => e = .returned (.bool over) ∧ Touch F w w' ∧ StackAt w' p F v xs room false := by
  have hmf := hmkf
  go_enter Tryz.func80, Tryz.ntmps80
  go_wp2_with fail
  obtain ⟨W, hW⟩ : ∃ W, W = w.alloc (Obj.cells #[.pointer (some ⟨p, 0, none⟩)] 132) := ⟨_, rfl⟩
  obtain ⟨b, hb⟩ : ∃ b, b = w.heap.size := ⟨_, rfl⟩
  rw [← hW, ← hb]
  obtain ⟨c0, f0⟩ := box1 (show W.heap[b]? = some _ by rw [hW, hb]; exact World.alloc_heap_new w _)
  have hT : Touch nob w W := by rw [hW]; (repeat (first | with_reducible exact Touch.refl _ _ | with_reducible assumption | with_reducible apply Touch.alloc | with_reducible apply Touch.drewN | with_reducible apply Touch.drew | with_reducible refine Touch.setCell ?_ (.inr (by first | omega | (simp; done) | (simp; omega))) _))
  have hA := h.touch hT (fun _ _ x => x)
  obtain ⟨d0, d1, d2, e0, e1, e2⟩ := box3 hA.box
  have hpb : ¬ p = b := by have := blk_lt h.box; omega
  have HX := Lib.hid (And.intro hT hA)
  clear hW h hT hA hb
  go_wp2
  go_ret
  obtain ⟨hT, hA⟩ := HX.out
  refine ⟨rfl, Touch.setCell (S := F) (hT.mono (fun _ _ h => h.elim)) (.inl hA.fp) _, blk_set hA.box rfl, owns_touch hA.own (Touch.setCell (S := fun b => b = p) (Touch.refl _ _) (.inl rfl) _) (fun b hb => (hA.fv b hb).2), hA.len, hA.fp, hA.fv⟩
end Go.Proofs.YtnobempbcdkoaaaGreatDoor
namespace Go.Proofs.YtnobempbcdkoaaaGreatDoor
open Go.RowKit

theorem info_int : (Tryz.prog.info? 3).map (fun i => (i.zero, i.size, i.bytes)) = some (some (.int .i64 0), 1, 8) := by kernel_rfl

/-- What stands behind the append. -/
def Pushed (W2 : World) (p : Nat) (x : Int) (ao : Option Addr) (xs : List Int) (cap : Nat) (room : Int) (over : Bool) (g cap3 : Nat) (w3 : World) : Prop :=
  w3.ownsRow 0 3 1 (.slice (some ⟨g, 0, none⟩) (xs.length + 1) cap3) (xs.length + 1) (xs.map (.int .i64) ++ [.int .i64 x]) ∧ (W2.alloc (Obj.cells #[.int .i64 x] 3)).drew.grownBy w3 (Value.slice ao xs.length cap).ownBlock ∧
    ((Value.slice ao xs.length cap).ownBlock = some g ∨ g = W2.heap.size + 1) ∧ g < w3.heap.size ∧ w3.heap[p]? = some (.cells #[.slice ao xs.length cap, .int .i64 room, .bool over] 170)

set_option maxHeartbeats 4000000 in
theorem stack_Push_ok (p : Nat) (F : Nat → Prop) (v : Value) (xs : List Int) (room : Int) (over : Bool) (x : Int) (w : World) (h : StackAt w p F v xs room over) (hr : xs.length < room) :
    Calls Tryz.prog 115 #[.pointer (some ⟨p, 0, none⟩), .int .i64 x] w fun e w' => e = .returned (.bool true) ∧ Touch F w w' ∧ ∃ F' v', Sub w F' F ∧ StackAt w' p F' v' (xs ++ [x]) room over := by
  have hmf := hmkf
  obtain ⟨i0, hi, hz0, hz1, hz2⟩ := info_parts info_int
  obtain ⟨l0, l1⟩ := h.len
  go_enter Tryz.func115, Tryz.ntmps115
  go_wp2_with fail
  obtain ⟨W, hW⟩ : ∃ W, W = (w.alloc (Obj.cells #[.pointer (some ⟨p, 0, none⟩)] 132)).alloc (Obj.cells #[.int .i64 x] 3) := ⟨_, rfl⟩
  obtain ⟨b, hb⟩ : ∃ b, b = w.heap.size := ⟨_, rfl⟩
  rw [← hW, ← hb]
  have b0 : W.heap[b]? = some (Obj.cells #[.pointer (some ⟨p, 0, none⟩)] 132) := by rw [hW, hb]; exact alloc2_0 w _ _
  have b1 : W.heap[b + 1]? = some (Obj.cells #[.int .i64 x] 3) := by rw [hW, hb]; exact alloc2_1 w _ _
  obtain ⟨c0, f0⟩ := box1 b0
  obtain ⟨c1, f1⟩ := box1 b1
  have hT : Touch nob w W := by rw [hW]; (repeat (first | with_reducible exact Touch.refl _ _ | with_reducible assumption | with_reducible apply Touch.alloc | with_reducible apply Touch.drewN | with_reducible apply Touch.drew | with_reducible refine Touch.setCell ?_ (.inr (by first | omega | (simp; done) | (simp; omega))) _))
  have hA := h.touch hT (fun _ _ x => x)
  obtain ⟨d0, d1, d2, e0, e1, e2⟩ := box3 hA.box
  have hpb : ¬ p = b := by have := blk_lt h.box; omega
  have hpb1 : ¬ p = b + 1 := by have := blk_lt h.box; omega
  have HGB : Hid (∀ g, v.ownBlock = some g → g < b) := fun g hg => by rw [hb]; exact owns_lt h.own hg
  have hlen : ∃ ao cap, v = .slice ao xs.length cap := by
    rcases h.form with ⟨rfl, rfl⟩ | ⟨g, cap, rfl, _⟩
    · exact ⟨_, _, rfl⟩
    · exact ⟨_, _, rfl⟩
  obtain ⟨ao, cap, hv⟩ := hlen
  subst hv
  have HX := Lib.hid (And.intro hT (And.intro hA (And.intro hb (And.intro b0 b1))))
  have hne : (((xs.length : Nat) : Int) == room) = false := by simp; omega
  clear hW h hT hA hb b0 b1
  go_wp2_with go_in
  go_quiet (fail)
  go_wp2_with go_in
  obtain ⟨W2, hW2⟩ : ∃ W2, W.drewN nq = W2 := ⟨_, rfl⟩
  have hT2 : Touch nob W W2 := by rw [← hW2]; (repeat (first | with_reducible exact Touch.refl _ _ | with_reducible assumption | with_reducible apply Touch.alloc | with_reducible apply Touch.drewN | with_reducible apply Touch.drew | with_reducible refine Touch.setCell ?_ (.inr (by first | omega | (simp; done) | (simp; omega))) _))
  rw [hW2]
  have hA2 := (HX.out.2.1).touch hT2 (fun _ _ x => x)
  clear hW2 d0 d1 d2 e0 e1 e2 c0 c1 f0 f1
  have hown := hA2.own
  obtain ⟨d0, d1, d2, e0, e1, e2⟩ := box3 hA2.box
  obtain ⟨c0, f0⟩ := box1 (blk_touch HX.out.2.2.2.1 hT2 (fun x => x))
  obtain ⟨c1, f1⟩ := box1 (blk_touch HX.out.2.2.2.2 hT2 (fun x => x))
  have hp2 := blk_lt hA2.box
  have hb2 := blk_lt (blk_touch HX.out.2.2.2.1 hT2 (fun x => x))
  have hb3 := blk_lt (blk_touch HX.out.2.2.2.2 hT2 (fun x => x))
  have HA2 := Lib.hid (And.intro hA2 (And.intro hT2 hown))
  clear hA2 hT2 hown
  have HP : Hid (∀ w3, (W2.alloc (Obj.cells #[.int .i64 x] 3)).drew.grownBy w3 (Value.slice ao xs.length cap).ownBlock → w3.heap[p]? = some (.cells #[.slice ao xs.length cap, .int .i64 room, .bool over] 170)) := fun w3 hg => by
    have h1 := blk_lt HA2.out.1.box
    exact (hg.block p (by show p < (W2.alloc _).heap.size; rw [World.size_alloc]; omega) (fun e => (HA2.out.1.fv p e.symm).2 rfl)).trans ((Below.heap_alloc _ _ _ h1).trans HA2.out.1.box)
  have HQ : Hid (∀ w3, (W2.alloc (Obj.cells #[.int .i64 x] 3)).drew.grownBy w3 (Value.slice ao xs.length cap).ownBlock → w3.cell? ⟨b, 0, none⟩ = some (.pointer (some ⟨p, 0, none⟩)) ∧ w3.cell? ⟨b + 1, 0, none⟩ = some (.int .i64 x)) := fun w3 hg => by
    have h1 := blk_touch HX.out.2.2.2.1 HA2.out.2.1 (fun x => x)
    have h2 := blk_touch HX.out.2.2.2.2 HA2.out.2.1 (fun x => x)
    exact ⟨(box1 ((hg.block b (by show b < (W2.alloc _).heap.size; rw [World.size_alloc]; exact Nat.lt_succ_of_lt (blk_lt h1)) (fun e => Nat.lt_irrefl _ (HGB.out b e.symm))).trans ((Below.heap_alloc _ _ _ (blk_lt h1)).trans h1))).1,
      (box1 ((hg.block (b + 1) (by show b + 1 < (W2.alloc _).heap.size; rw [World.size_alloc]; exact Nat.lt_succ_of_lt (blk_lt h2)) (fun e => by have := HGB.out (b + 1) e.symm; omega)).trans ((Below.heap_alloc _ _ _ (blk_lt h2)).trans h2))).1⟩
  go_cut [] from 16 (fun wc => ∃ g cap3 w3, Pushed W2 p x ao xs cap room over g cap3 w3 ∧ wc = w3.setCell ⟨p, 0, none⟩ (.slice (some ⟨g, 0, none⟩) (xs.length + 1) cap3))
  case first =>
    go_region_law (first | (refine step_append_lies _ rfl (.tmp 20) (.tmp 22) 28 rfl 0 3 i0 (.int .i64 0) 1 8 Tryz.underlying28 hi hz0 hz1 hz2 rfl (by decide) (.slice ao xs.length cap) xs.length (xs.map (.int .i64)) rfl (HA2.out.2.2.alloc _) ⟨W2.heap.size, 0, none⟩ 1 1 [.int .i64 x] rfl rfl (World.news_of_block (World.alloc_heap_new _ _)) (ints_oneCell _ [x]) (by omega) (by unfold maxLen; omega) (by omega) (Nat.zero_le _) (W2.heap.size + 1) (by simp) ?_; intro g cap3 w3 hown hgrow hat hlt3; have hp3 := HP.out w3 hgrow; have hq3 := (HQ.out w3 hgrow).1; have HW3 := Lib.hid (show Pushed W2 p x ao xs cap room over g cap3 w3 from ⟨hown, hgrow, hat, hlt3, hp3⟩); obtain ⟨dd0, dd1, dd2, ee0, ee1, ee2⟩ := box3 hp3; clear hown hgrow hat hlt3 hp3))
    all_goals
      go_wp2
      go_meet
      case rel => exact ⟨g, cap3, w3, HW3.out, rfl⟩
  case rest =>
    obtain ⟨g, cap3, w3, hP, rfl⟩ := hcut
    have HPP := Lib.hid hP
    clear hP
    go_wp2
    go_ret
    obtain ⟨hown, hgrow, hat, hlt3, hp3⟩ := HPP.out
    obtain ⟨hA2, hT2, _⟩ := HA2.out
    obtain ⟨hT, hA, _⟩ := HX.out
    have hgp : g ≠ p := by
      rcases hat with hat | hat
      · exact (hA2.fv g hat).2
      · omega
    have hTF : Touch F w w3 := Touch.grown (S := F) (Touch.drew (Touch.alloc ((hT.trans hT2).mono (fun _ _ h => h.elim)) _)) hgrow (fun k hk => .inl (hA2.fv k hk).1)
    refine ⟨rfl, Touch.setCell (S := F) hTF (.inl hA2.fp) _, fun b => b = p ∨ b = g, .slice (some ⟨g, 0, none⟩) (xs.length + 1) cap3, ?_, ?_⟩
    · rintro k (rfl | rfl)
      · exact .inl hA2.fp
      · rcases hat with hat | hat
        · exact .inl (hA2.fv _ hat).1
        · have := (hT.trans hT2).size; right; omega
    · refine ⟨blk_set hp3 rfl, ?_, ?_, .inl rfl, fun b hb => ?_⟩
      · rw [List.map_append, List.length_append]
        exact owns_touch hown (Touch.setCell (S := fun b => b = p) (Touch.refl _ _) (.inl rfl) _) (fun b hb => by cases hb; exact hgp)
      · rw [List.length_append]; simp; omega
      · cases hb; exact ⟨.inr rfl, hgp⟩
end Go.Proofs.YtnobempbcdkoaaaGreatDoor
namespace Go.Proofs.YtnobempbcdkoaaaGreatDoor
open Go.RowKit

set_option maxHeartbeats 400000 in
theorem stack_Push_no (p : Nat) (F : Nat → Prop) (v : Value) (xs : List Int) (room : Int) (over : Bool) (x : Int) (w : World) (h : StackAt w p F v xs room over) (hr : ¬ xs.length < room) :
    Calls Tryz.prog 115 #[.pointer (some ⟨p, 0, none⟩), .int .i64 x] w fun e w' => e = .returned (.bool false) ∧ Touch F w w' ∧ StackAt w' p F v xs room true := by
  have hmf := hmkf
  obtain ⟨l0, l1⟩ := h.len
  go_enter Tryz.func115, Tryz.ntmps115
  go_wp2_with fail
  obtain ⟨W, hW⟩ : ∃ W, W = (w.alloc (Obj.cells #[.pointer (some ⟨p, 0, none⟩)] 132)).alloc (Obj.cells #[.int .i64 x] 3) := ⟨_, rfl⟩
  obtain ⟨b, hb⟩ : ∃ b, b = w.heap.size := ⟨_, rfl⟩
  rw [← hW, ← hb]
  obtain ⟨c0, f0⟩ := box1 (show W.heap[b]? = some _ by rw [hW, hb]; exact alloc2_0 w _ _)
  obtain ⟨c1, f1⟩ := box1 (show W.heap[b + 1]? = some _ by rw [hW, hb]; exact alloc2_1 w _ _)
  have hT : Touch nob w W := by rw [hW]; (repeat (first | with_reducible exact Touch.refl _ _ | with_reducible assumption | with_reducible apply Touch.alloc | with_reducible apply Touch.drewN | with_reducible apply Touch.drew | with_reducible refine Touch.setCell ?_ (.inr (by first | omega | (simp; done) | (simp; omega))) _))
  have hA := h.touch hT (fun _ _ x => x)
  obtain ⟨d0, d1, d2, e0, e1, e2⟩ := box3 hA.box
  have hpb : ¬ p = b := by have := blk_lt h.box; omega
  have hlen : ∃ ao cap, v = .slice ao xs.length cap := by
    rcases h.form with ⟨rfl, rfl⟩ | ⟨g, cap, rfl, _⟩
    · exact ⟨_, _, rfl⟩
    · exact ⟨_, _, rfl⟩
  obtain ⟨ao, cap, hv⟩ := hlen
  subst hv
  have HX := Lib.hid (And.intro hT (And.intro hA hb))
  have hne : (((xs.length : Nat) : Int) == room) = true := by simp; omega
  clear hW h hT hA hb
  go_wp2_with go_in
  go_quiet (fail)
  go_wp2_with go_in
  go_ret
  obtain ⟨hT, hA, _⟩ := HX.out
  have hA2 := hA.touch ((Touch.refl nob W).drewN nq) (fun _ _ x => x)
  refine ⟨rfl, Touch.setCell (S := F) ((hT.mono (fun _ _ h => h.elim)).drewN nq) (.inl hA.fp) _, blk_set hA2.box rfl, owns_touch hA2.own (Touch.setCell (S := fun b => b = p) (Touch.refl _ _) (.inl rfl) _) (fun b hb => (hA.fv b hb).2), hA.len, hA.fp, hA.fv⟩

theorem stack_Pop_no (p : Nat) (F : Nat → Prop) (v : Value) (room : Int) (over : Bool) (w : World) (h : StackAt w p F v [] room over) :
    Calls Tryz.prog 116 #[.pointer (some ⟨p, 0, none⟩)] w fun e w' => e = .returned (.tuple #[.int .i64 0, .bool false]) ∧ Touch nob w w' := by
  go_enter Tryz.func116, Tryz.ntmps116
  go_wp2_with (go_at_call 147; refine (stack_Len p F v [] room over w h).mono ?_; rintro e w1 ⟨rfl, hT⟩; rw [List.length_nil])
  go_ret2
  exact ⟨rfl, hT⟩

set_option maxHeartbeats 400000 in
theorem stack_Pop_ok (p : Nat) (F : Nat → Prop) (v : Value) (xs : List Int) (y : Int) (room : Int) (over : Bool) (w : World) (h : StackAt w p F v (xs ++ [y]) room over) :
    Calls Tryz.prog 116 #[.pointer (some ⟨p, 0, none⟩)] w fun e w' => e = .returned (.tuple #[.int .i64 y, .bool true]) ∧ Touch F w w' ∧ ∃ v', StackAt w' p F v' xs room over := by
  obtain ⟨n, hn⟩ : ∃ n, xs.length = n := ⟨_, rfl⟩
  obtain ⟨l0, l1⟩ := h.len
  rw [List.length_append, hn] at l0
  have hl : (xs ++ [y]).length = n + 1 := by rw [List.length_append, hn]; rfl
  go_enter Tryz.func116, Tryz.ntmps116
  go_wp2_with (go_at_call 147; fail)
  refine (stack_Len p F v _ room over w h).mono ?_
  rintro e w1 ⟨rfl, hT⟩
  have hA := h.touch hT (fun _ _ x => x)
  obtain ⟨d0, d1, d2, e0, e1, e2⟩ := box3 hA.box
  rcases hA.form with ⟨_, hx⟩ | ⟨g, cap, rfl, hgp, hgl, hR⟩
  · simp at hx
  have hc := hR.int' (j := n) hl hn
  obtain ⟨_, _, _, hcap, _⟩ := id hR
  rw [List.length_map, hl] at hcap
  rw [hl] at d0 ⊢
  have HX := Lib.hid (And.intro hT (And.intro hA (And.intro hn hl)))
  clear hA h hR hn hl hT
  go_wp2
  go_ret2
  obtain ⟨hT, hA, hn, hl⟩ := HX.out
  refine ⟨rfl, Touch.setCell (S := F) (hT.mono (fun _ _ h => h.elim)) (.inl hA.fp) _, .slice (some ⟨g, 0, none⟩) n cap, blk_set hA.box rfl, ?_, ⟨by simp at l0; omega, l1⟩, hA.fp, fun b hb => by cases hb; exact hA.fv _ rfl⟩
  have ho := owns_take hA.own (k := n) (by rw [hl]; omega)
  rw [show ((xs ++ [y]).map (Value.int .i64)).take n = xs.map (Value.int .i64) by subst hn; simp] at ho
  rw [hn]
  exact owns_touch ho (Touch.setCell (S := fun b => b = p) (Touch.refl _ _) (.inl rfl) _) (fun b hb => by cases hb; exact hgp)

theorem info_int' : (Tryz.prog.info? 3).map (fun i => (i.zero, i.size, i.bytes)) = some (some (.int .i64 0), 1, 8) := by kernel_rfl
/-- A slice that reads so. -/
theorem ints_owned {w : World} {base : Nat} {v : Value} {n : Nat} {xs : List Int} (h : w.ownsRow base 3 1 v n (xs.map (.int .i64))) : IntsIn w v xs := by
  obtain ⟨h1, h2⟩ := id h
  rcases h2 with ⟨rfl, rfl⟩ | ⟨g, cap, cur, rfl, hg, hh, hn, r⟩
  · have : xs = [] := by simpa using h1
    subst this
    exact ⟨none, 0, rfl, .inl rfl⟩
  · have hl : xs.length = n := by simpa using h1
    refine ⟨some ⟨g, 0, none⟩, cap, by rw [hl], .inr ⟨g, 0, rfl, by omega, fun j hj => ?_⟩⟩
    rw [Nat.zero_add, (RowAt.of_owns h).1.cell (j := j) (by simpa using hj)]
    simp [List.getD_eq_getElem?_getD, hj]

end Go.Proofs.YtnobempbcdkoaaaGreatDoor
