/- The stack's functions, walked. Conditions: none beyond what each says. -/
import Derived.Test.YthdlgffpcfjbiaaProg
import Derived.Test.YthdlgffpcfjbiaaRep
import Derived.Deep.QuietTactic
import Derived.BigQuiet
import Derived.BigRegion
import Derived.Deep.RegionLaw
import Derived.Deep.AppendLies
namespace Go.Proofs.Ythdlgffpcfjbiaa
open Go.RowKit

theorem owns_touch {S : Nat → Prop} {w w' : World} {base : Nat} {e : TypeId} {size : Nat} {v : Value} {n : Nat} {xs : List Value} (h : w.ownsRow base e size v n xs) (ht : Touch S w w') (hs : ∀ b, v.ownBlock = some b → ¬ S b) : w'.ownsRow base e size v n xs := by
  obtain ⟨h1, h2⟩ := h
  refine ⟨h1, ?_⟩
  rcases h2 with h2 | ⟨g, cap, cur, rfl, hg, hh, hn⟩
  · exact .inl h2
  · exact .inr ⟨g, cap, cur, rfl, hg, blk_touch hh ht (hs g rfl), hn⟩
theorem owns_lt {w : World} {base : Nat} {e : TypeId} {size : Nat} {v : Value} {n : Nat} {xs : List Value} (h : w.ownsRow base e size v n xs) {b : Nat} (hb : v.ownBlock = some b) : b < w.heap.size := (h.lt b hb).2
theorem owns_take {w : World} {base : Nat} {e : TypeId} {g n cap : Nat} {xs : List Value} (h : w.ownsRow base e 1 (.slice (some ⟨g, 0, none⟩) n cap) n xs) {k : Nat} (hk : k ≤ n) : w.ownsRow base e 1 (.slice (some ⟨g, 0, none⟩) k cap) k (xs.take k) := by
  obtain ⟨h1, h2⟩ := h
  refine ⟨by rw [List.length_take]; omega, ?_⟩
  rcases h2 with ⟨h2, _⟩ | ⟨g', cap', cur, hv, hg, hh, hn, hm, hc, ht⟩
  · cases h2
  · cases hv
    refine .inr ⟨g, cap, cur, rfl, hg, hh, by omega, hm, hc, ?_⟩
    rw [← ht, List.take_take, Nat.mul_one, Nat.mul_one, Nat.min_eq_left hk]

/-- A stack: its box, its numbers from the least one on, its footprint. -/
structure StackAt (w : World) (p : Nat) (F : Nat → Prop) (v : Value) (xs : List Int) (room : Int) (over : Bool) : Prop where
  box : w.heap[p]? = some (.cells #[v, .int .i64 room, .bool over] 74)
  own : w.ownsRow 0 3 1 v xs.length (xs.map (.int .i64))
  len : xs.length ≤ room ∧ room ≤ 4096
  fp : F p
  fv : ∀ b, v.ownBlock = some b → F b ∧ b ≠ p
theorem StackAt.touch {S : Nat → Prop} {w w' : World} {p : Nat} {F : Nat → Prop} {v : Value} {xs : List Int} {room : Int} {over : Bool} (h : StackAt w p F v xs room over) (ht : Touch S w w') (hs : ∀ b, F b → ¬ S b) : StackAt w' p F v xs room over :=
  ⟨blk_touch h.box ht (hs p h.fp), owns_touch h.own ht (fun b hb => hs b (h.fv b hb).1), h.len, h.fp, h.fv⟩
theorem StackAt.form {w : World} {p : Nat} {F : Nat → Prop} {v : Value} {xs : List Int} {room : Int} {over : Bool} (h : StackAt w p F v xs room over) : (v = .slice none 0 0 ∧ xs = []) ∨ ∃ g cap, v = .slice (some ⟨g, 0, none⟩) xs.length cap ∧ g ≠ p ∧ g < w.heap.size ∧ RowAt w g 3 cap (xs.map (.int .i64)) := by
  have ho := h.own
  rcases ho.2 with ⟨h1, h2⟩ | ⟨g, cap, cur, hv, hg, hh, r⟩
  · exact .inl ⟨h1, List.eq_nil_of_length_eq_zero h2⟩
  · subst hv
    exact .inr ⟨g, cap, rfl, (h.fv g rfl).2, blk_lt hh, (RowAt.of_owns ho).1⟩

theorem hmkf : ∀ (fn : Fn) (first cap : Array Value) (w : World), (Instr.makeFunc fn first cap).run Try.prog w = .ok (.func fn first cap) w := fun _ _ _ _ => rfl

theorem stack_New_ok (n : Int) (h0 : 1 ≤ n) (h1 : n ≤ 4096) (w : World) :
    Calls Try.prog 19 #[.int .i64 n] w fun e w' => e = .returned (.tuple #[.pointer (some ⟨w.heap.size, 0, none⟩), .int .i64 0]) ∧ Touch nob w w' ∧ StackAt w' w.heap.size (fun b => b = w.heap.size) (.slice none 0 0) [] n false := by
  go_enter Try.func19, Try.ntmps19
  go_wp2
  go_ret2
  exact ⟨rfl, (Touch.refl _ _).alloc _, World.alloc_heap_new _ _, World.ownsRow_nil _ _ _ _, ⟨by simp; omega, h1⟩, rfl, fun b hb => by cases hb⟩
theorem stack_New_no (n : Int) (hn : n < 1 ∨ 4096 < n) (w : World) :
    Calls Try.prog 19 #[.int .i64 n] w fun e w' => e = .returned (.tuple #[.pointer none, .int .i64 4]) ∧ w = w' := by
  rcases hn with h | h
  all_goals
    go_enter Try.func19, Try.ntmps19
    go_wp2
    go_ret2
    exact ⟨rfl, rfl⟩

theorem stack_Len (p : Nat) (F : Nat → Prop) (v : Value) (xs : List Int) (room : Int) (over : Bool) (w : World) (h : StackAt w p F v xs room over) :
    Calls Try.prog 22 #[.pointer (some ⟨p, 0, none⟩)] w fun e w' => e = .returned (.int .i64 xs.length) ∧ Touch nob w w' := by
  have hmf := hmkf
  have hl := h.len
  obtain ⟨l0, l1⟩ := hl
  go_enter Try.func22, Try.ntmps22
  go_wp2_with fail
  obtain ⟨W, hW⟩ : ∃ W, W = w.alloc (Obj.cells #[.pointer (some ⟨p, 0, none⟩)] 34) := ⟨_, rfl⟩
  obtain ⟨b, hb⟩ : ∃ b, b = w.heap.size := ⟨_, rfl⟩
  rw [← hW, ← hb]
  obtain ⟨c0, f0⟩ := box1 (show W.heap[b]? = some _ by rw [hW, hb]; exact World.alloc_heap_new w _)
  have hT : Touch nob w W := by rw [hW]; repeat (first | with_reducible exact Touch.refl _ _ | with_reducible assumption | with_reducible apply Touch.alloc | with_reducible apply Touch.drewN | with_reducible apply Touch.drew | with_reducible refine Touch.setCell ?_ (.inr (by first | omega | (simp; done) | (simp; omega))) _)
  obtain ⟨d0, d1, d2, e0, e1, e2⟩ := box3 (h.touch hT (fun _ _ x => x)).box
  have hlen : ∃ ao cap, v = .slice ao xs.length cap := by
    rcases h.form with ⟨rfl, rfl⟩ | ⟨g, cap, rfl, _⟩
    · exact ⟨_, _, rfl⟩
    · exact ⟨_, _, rfl⟩
  obtain ⟨ao, cap, rfl⟩ := hlen
  clear hW h hb
  go_wp2
  go_ret
  exact ⟨rfl, hT⟩

theorem stack_Over (p : Nat) (F : Nat → Prop) (v : Value) (xs : List Int) (room : Int) (over : Bool) (w : World) (h : StackAt w p F v xs room over) :
    Calls Try.prog 21 #[.pointer (some ⟨p, 0, none⟩)] w fun e w' => e = .returned (.bool over) ∧ Touch nob w w' := by
  have hmf := hmkf
  go_enter Try.func21, Try.ntmps21
  go_wp2_with fail
  obtain ⟨W, hW⟩ : ∃ W, W = w.alloc (Obj.cells #[.pointer (some ⟨p, 0, none⟩)] 34) := ⟨_, rfl⟩
  obtain ⟨b, hb⟩ : ∃ b, b = w.heap.size := ⟨_, rfl⟩
  rw [← hW, ← hb]
  obtain ⟨c0, f0⟩ := box1 (show W.heap[b]? = some _ by rw [hW, hb]; exact World.alloc_heap_new w _)
  have hT : Touch nob w W := by rw [hW]; repeat (first | with_reducible exact Touch.refl _ _ | with_reducible assumption | with_reducible apply Touch.alloc | with_reducible apply Touch.drewN | with_reducible apply Touch.drew | with_reducible refine Touch.setCell ?_ (.inr (by first | omega | (simp; done) | (simp; omega))) _)
  obtain ⟨d0, d1, d2, e0, e1, e2⟩ := box3 (h.touch hT (fun _ _ x => x)).box
  clear hW h hb
  go_wp2
  go_ret
  exact ⟨rfl, hT⟩

theorem stack_Calm (p : Nat) (F : Nat → Prop) (v : Value) (xs : List Int) (room : Int) (over : Bool) (w : World) (h : StackAt w p F v xs room over) :
    Calls Try.prog 24 #[.pointer (some ⟨p, 0, none⟩)] w fun e w' => e = .returned (.bool over) ∧ Touch F w w' ∧ StackAt w' p F v xs room false := by
  have hmf := hmkf
  go_enter Try.func24, Try.ntmps24
  go_wp2_with fail
  obtain ⟨W, hW⟩ : ∃ W, W = w.alloc (Obj.cells #[.pointer (some ⟨p, 0, none⟩)] 34) := ⟨_, rfl⟩
  obtain ⟨b, hb⟩ : ∃ b, b = w.heap.size := ⟨_, rfl⟩
  rw [← hW, ← hb]
  obtain ⟨c0, f0⟩ := box1 (show W.heap[b]? = some _ by rw [hW, hb]; exact World.alloc_heap_new w _)
  have hT : Touch nob w W := by rw [hW]; repeat (first | with_reducible exact Touch.refl _ _ | with_reducible assumption | with_reducible apply Touch.alloc | with_reducible apply Touch.drewN | with_reducible apply Touch.drew | with_reducible refine Touch.setCell ?_ (.inr (by first | omega | (simp; done) | (simp; omega))) _)
  have hA := h.touch hT (fun _ _ x => x)
  obtain ⟨d0, d1, d2, e0, e1, e2⟩ := box3 hA.box
  have hpb : ¬ p = b := by have := blk_lt h.box; omega
  have HX := Lib.hid (And.intro hT hA)
  clear hW h hT hA hb
  go_wp2
  go_ret
  obtain ⟨hT, hA⟩ := HX.out
  refine ⟨rfl, Touch.setCell (S := F) (hT.mono (fun _ _ h => h.elim)) (.inl hA.fp) _, blk_set hA.box rfl, owns_touch hA.own (Touch.setCell (S := fun b => b = p) (Touch.refl _ _) (.inl rfl) _) (fun b hb => (hA.fv b hb).2), hA.len, hA.fp, hA.fv⟩
end Go.Proofs.Ythdlgffpcfjbiaa
