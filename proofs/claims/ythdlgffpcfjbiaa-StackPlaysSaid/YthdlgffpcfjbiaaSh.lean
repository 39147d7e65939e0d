/- A stack by what it holds, and a slice beside it. Conditions: none beyond what each says. -/
import Derived.Test.YthdlgffpcfjbiaaStk
import Derived.Test.YthdlgffpcfjbiaaSl
namespace Go.Proofs.Ythdlgffpcfjbiaa
open Go.RowKit

structure Sh (w wr : World) (p : Nat) (xs : List Int) (room : Int) (over : Bool) (hv : Value) (ys : List Int) : Prop where
  touch : Touch nob w wr
  ex : ∃ v, StackAt wr p (fun b => b = p ∨ v.ownBlock = some b) v xs room over ∧ w.heap.size ≤ p ∧ (∀ b, v.ownBlock = some b → w.heap.size ≤ b) ∧ ∀ b, hv.ownBlock = some b → v.ownBlock ≠ some b
  sl : SlAt wr hv ys
theorem StackAt.shrink {w : World} {p : Nat} {F : Nat → Prop} {v : Value} {xs : List Int} {room : Int} {over : Bool} (h : StackAt w p F v xs room over) : StackAt w p (fun b => b = p ∨ v.ownBlock = some b) v xs room over :=
  ⟨h.box, h.own, h.len, .inl rfl, fun b hb => ⟨.inr hb, (h.fv b hb).2⟩⟩
variable {w wr w' : World} {p : Nat} {xs ys : List Int} {room : Int} {over : Bool} {hv hv' : Value}
theorem Sh.old (h : Sh w wr p xs room over hv ys) (ht : Touch nob wr w') : Sh w w' p xs room over hv ys := by
  obtain ⟨h1, ⟨v, h2, h3, h4, h5⟩, h6⟩ := h
  exact ⟨h1.trans ht, ⟨v, h2.touch ht (fun _ _ x => x), h3, h4, h5⟩, h6.old ht⟩
theorem Sh.of_new (ht : Touch nob w wr) (hp : w.heap.size ≤ p) (h : StackAt wr p (fun b => b = p) (.slice none 0 0) xs room over) : Sh w wr p xs room over (.slice none 0 0) [] :=
  ⟨ht, ⟨_, h.shrink, hp, (fun b hb => by cases hb), fun b hb => by cases hb⟩, SlAt.nil _⟩
theorem Sh.step {v v' : Value} {F' : Nat → Prop} {xs' : List Int} {over' : Bool} (h : Sh w wr p xs room over hv ys) (h2 : StackAt wr p (fun b => b = p ∨ v.ownBlock = some b) v xs room over) (h3 : w.heap.size ≤ p) (h4 : ∀ b, v.ownBlock = some b → w.heap.size ≤ b) (h5 : ∀ b, hv.ownBlock = some b → v.ownBlock ≠ some b)
    (ht : Touch (fun b => b = p ∨ v.ownBlock = some b) wr w') (hs : Sub wr F' (fun b => b = p ∨ v.ownBlock = some b)) (hn : StackAt w' p F' v' xs' room over') : Sh w w' p xs' room over' hv ys := by
  have hbp := h.sl.ne h2.box (by decide)
  refine ⟨h.touch.step ht (fun i hi => .inr (by rcases hi with rfl | hi; exact h3; exact h4 i hi)), ⟨v', hn.shrink, h3, fun b hb => ?_, fun b hb hb' => ?_⟩, h.sl.touch ht (fun b hb hF => ?_)⟩
  · rcases hs b (hn.fv b hb).1 with (h' | h') | h'
    · rw [h']; exact h3
    · exact h4 b h'
    · exact Nat.le_trans h.touch.size h'
  · rcases hs b (hn.fv b hb').1 with (h' | h') | h'
    · exact hbp b hb h'
    · exact h5 b hb h'
    · have := h.sl.lt b hb; omega
  · rcases hF with hF | hF
    · exact hbp b hb hF
    · exact h5 b hb hF
theorem Sub.refl (w : World) (F : Nat → Prop) : Sub w F F := fun _ h => .inl h
theorem sh_Push_ok (h : Sh w wr p xs room over hv ys) (x : Int) (hr : xs.length < room) :
    Calls Try.prog 20 #[.pointer (some ⟨p, 0, none⟩), .int .i64 x] wr fun e w' => e = .returned (.bool true) ∧ Sh w w' p (xs ++ [x]) room over hv ys := by
  obtain ⟨v, h2, h3, h4, h5⟩ := h.ex
  exact (stack_Push_ok p _ v xs room over x wr h2 hr).mono fun e w' ⟨g1, g2, F', v', g3, g4⟩ => ⟨g1, h.step h2 h3 h4 h5 g2 g3 g4⟩
theorem sh_Push_no (h : Sh w wr p xs room over hv ys) (x : Int) (hr : ¬ xs.length < room) :
    Calls Try.prog 20 #[.pointer (some ⟨p, 0, none⟩), .int .i64 x] wr fun e w' => e = .returned (.bool false) ∧ Sh w w' p xs room true hv ys := by
  obtain ⟨v, h2, h3, h4, h5⟩ := h.ex
  exact (stack_Push_no p _ v xs room over x wr h2 hr).mono fun e w' ⟨g1, g2, g4⟩ => ⟨g1, h.step h2 h3 h4 h5 g2 (Sub.refl _ _) g4⟩
theorem sh_Calm (h : Sh w wr p xs room over hv ys) : Calls Try.prog 24 #[.pointer (some ⟨p, 0, none⟩)] wr fun e w' => e = .returned (.bool over) ∧ Sh w w' p xs room false hv ys := by
  obtain ⟨v, h2, h3, h4, h5⟩ := h.ex
  exact (stack_Calm p _ v xs room over wr h2).mono fun e w' ⟨g1, g2, g4⟩ => ⟨g1, h.step h2 h3 h4 h5 g2 (Sub.refl _ _) g4⟩
theorem sh_Pop_ok {y : Int} (h : Sh w wr p (xs ++ [y]) room over hv ys) : Calls Try.prog 23 #[.pointer (some ⟨p, 0, none⟩)] wr fun e w' => e = .returned (.tuple #[.int .i64 y, .bool true]) ∧ Sh w w' p xs room over hv ys := by
  obtain ⟨v, h2, h3, h4, h5⟩ := h.ex
  exact (stack_Pop_ok p _ v xs y room over wr h2).mono fun e w' ⟨g1, g2, v', g4⟩ => ⟨g1, h.step h2 h3 h4 h5 g2 (Sub.refl _ _) g4⟩
theorem sh_Pop_no (h : Sh w wr p [] room over hv ys) : Calls Try.prog 23 #[.pointer (some ⟨p, 0, none⟩)] wr fun e w' => e = .returned (.tuple #[.int .i64 0, .bool false]) ∧ Sh w w' p [] room over hv ys := by
  obtain ⟨v, h2, h3, h4, h5⟩ := h.ex
  exact (stack_Pop_no p _ v room over wr h2).mono fun e w' g => ⟨g.1, h.old g.2⟩
theorem sh_Len (h : Sh w wr p xs room over hv ys) : Calls Try.prog 22 #[.pointer (some ⟨p, 0, none⟩)] wr fun e w' => e = .returned (.int .i64 xs.length) ∧ Sh w w' p xs room over hv ys := by
  obtain ⟨v, h2, h3, h4, h5⟩ := h.ex
  exact (stack_Len p _ v xs room over wr h2).mono fun e w' g => ⟨g.1, h.old g.2⟩
theorem sh_Over (h : Sh w wr p xs room over hv ys) : Calls Try.prog 21 #[.pointer (some ⟨p, 0, none⟩)] wr fun e w' => e = .returned (.bool over) ∧ Sh w w' p xs room over hv ys := by
  obtain ⟨v, h2, h3, h4, h5⟩ := h.ex
  exact (stack_Over p _ v xs room over wr h2).mono fun e w' g => ⟨g.1, h.old g.2⟩
theorem sh_All (h : Sh w wr p xs room over hv ys) : Calls Try.prog 26 #[.pointer (some ⟨p, 0, none⟩)] wr fun e w' => ∃ v', e = .returned v' ∧ IntsIn w' v' xs ∧ Sh w w' p xs room over hv ys := by
  obtain ⟨v, h2, h3, h4, h5⟩ := h.ex
  exact (stack_All p _ v xs room over wr h2).mono fun e w' ⟨v', g1, g2, g3⟩ => ⟨v', g1, ints_owned g3, h.old g2⟩
/-- The slice beside it turns: within its row, or to a new one. -/
theorem Sh.have {zs : List Int} (h : Sh w wr p xs room over hv ys) (hs : SlAt wr hv' zs) (hb : ∀ b, hv'.ownBlock = some b → hv.ownBlock = some b) : Sh w wr p xs room over hv' zs := by
  obtain ⟨h1, ⟨v, h2, h3, h4, h5⟩, h6⟩ := h
  exact ⟨h1, ⟨v, h2, h3, h4, fun b hb' => h5 b (hb b hb')⟩, hs⟩
theorem Sh.grow {zs : List Int} (h : Sh w wr p xs room over hv ys) (ht : Touch nob wr w') (hs : SlAt w' hv' zs) (hb : ∀ b, hv'.ownBlock = some b → wr.heap.size ≤ b) : Sh w w' p xs room over hv' zs := by
  obtain ⟨h1, ⟨v, h2, h3, h4, h5⟩, h6⟩ := h
  refine ⟨h1.trans ht, ⟨v, h2.touch ht (fun _ _ x => x), h3, h4, fun b hb' hc => ?_⟩, hs⟩
  have := owns_lt h2.own hc
  have := hb b hb'
  omega
end Go.Proofs.Ythdlgffpcfjbiaa
