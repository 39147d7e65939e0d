/- A buffer and a box by what they hold, over a world that was there ahead of them; LogNone. Conditions: none beyond what each says. -/
import Derived.Test.YthdlgffpcfjbiaaLog2
import Derived.OpenShut
namespace Go.Proofs.Ythdlgffpcfjbiaa
open Go.RowKit

/-- Rows of ints stay. -/
def KeepInt (w w' : World) : Prop := ∀ (k : Nat) (cs : Array Value), w.heap[k]? = some (.cells cs 3) → w'.heap[k]? = some (.cells cs 3)
theorem KeepInt.refl (w : World) : KeepInt w w := fun _ _ h => h
theorem KeepInt.old {w w' : World} (h : Touch nob w w') : KeepInt w w' := fun _ _ hk => blk_touch hk h (fun x => x)
theorem KeepInt.trans {a b c : World} (h : KeepInt a b) (g : KeepInt b c) : KeepInt a c := fun k cs hk => g k cs (h k cs hk)
theorem SlAt.keep {w w' : World} {v : Value} {xs : List Int} (h : SlAt w v xs) (hk : KeepInt w w') : SlAt w' v xs := by
  rcases h with h | ⟨g, o, cap, cur, rfl, h1, h2, h3⟩
  · exact .inl h
  · exact .inr ⟨g, o, cap, cur, rfl, h1, hk _ _ h2, h3⟩
theorem owns_keep {w w' : World} {base n : Nat} {v : Value} {xs : List Value} (h : w.ownsRow base 3 1 v n xs) (hk : KeepInt w w') : w'.ownsRow base 3 1 v n xs := by
  obtain ⟨h1, h2⟩ := h
  refine ⟨h1, ?_⟩
  rcases h2 with h2 | ⟨g, cap, cur, rfl, hg, hh, r⟩
  · exact .inl h2
  · exact .inr ⟨g, cap, cur, rfl, hg, hk _ _ hh, r⟩

structure Lg (w wr : World) (p q : Nat) (room : Int) (O : Nat → Prop) (bs xs : List Int) : Prop where
  touch : Touch nob w wr
  hp : w.heap.size ≤ p
  hq : w.heap.size ≤ q
  oo : ∀ b, O b → b < wr.heap.size
  ex : ∃ v u, BufAt wr p room v bs ∧ BoxAt wr q u xs ∧ (∀ b, v.ownBlock = some b → ¬ O b) ∧ (∀ b, u.ownBlock = some b → ¬ O b)

variable {w wr : World} {p q : Nat} {room : Int} {O : Nat → Prop} {bs xs : List Int}
theorem RwAt.touch {w w' : World} {S : Nat → Prop} {t : TypeId} {r : List Value} {v : Value} (h : RwAt w p t r v xs) (ht : Touch S w w') (hp : ¬ S p) (hs : ∀ b, v.ownBlock = some b → ¬ S b) : RwAt w' p t r v xs :=
  ⟨blk_touch h.box ht hp, h.row.touch ht hs, h.ty, h.len⟩
theorem Lg.old {w' : World} (h : Lg w wr p q room O bs xs) (ht : Touch nob wr w') : Lg w w' p q room O bs xs := by
  obtain ⟨h1, h2, h3, h4, v, u, h5, h6, h7, h8⟩ := h
  exact ⟨h1.trans ht, h2, h3, fun b hb => Nat.lt_of_lt_of_le (h4 b hb) ht.size, v, u, h5.old ht, h6.old ht, h7, h8⟩
theorem Lg.keep (h : Lg w wr p q room O bs xs) {w' : World} (ht : Touch (fun b => b = p ∨ b = q) wr w') : KeepInt wr w' := by
  obtain ⟨h1, h2, h3, h4, v, u, h5, h6, h7, h8⟩ := h
  intro k cs hk
  refine blk_touch hk ht ?_
  rintro (rfl | rfl)
  · have := hk.symm.trans h5.box; simp at this
  · have := hk.symm.trans h6.box; simp at this
/-- Nothing but the buffer turns. -/
theorem Lg.buf {w' : World} {v' v u : Value} {bs' : List Int} (h : Lg w wr p q room O bs xs) (h5 : BufAt wr p room v bs) (h6 : BoxAt wr q u xs) (h7 : ∀ b, v.ownBlock = some b → ¬ O b) (h8 : ∀ b, u.ownBlock = some b → ¬ O b)
    (ht : Touch (fun b => b = p) wr w') (hb : BufAt w' p room v' bs') (hs : SubB wr v' v) : Lg w w' p q room O bs' xs ∧ KeepInt wr w' := by
  have hne := buf_ne h5 h6
  refine ⟨⟨h.touch.step ht (fun i hi => .inr (by rw [hi]; exact h.hp)), h.hp, h.hq, fun b hb => Nat.lt_of_lt_of_le (h.oo b hb) ht.size, v', u, hb, h6.touch ht (fun e => hne e.symm) (h6.row.ne h5.box h5.ty), ?_, h8⟩, h.keep (ht.mono (fun _ _ h => .inl h))⟩
  intro b hb' ho
  rcases hs b hb' with h | h'
  · exact h7 b h ho
  · have := h.oo b ho; omega
theorem Lg.box {w' : World} {u' v u : Value} {xs' : List Int} (h : Lg w wr p q room O bs xs) (h5 : BufAt wr p room v bs) (h6 : BoxAt wr q u xs) (h7 : ∀ b, v.ownBlock = some b → ¬ O b) (h8 : ∀ b, u.ownBlock = some b → ¬ O b)
    (ht : Touch (fun b => b = q) wr w') (hb : BoxAt w' q u' xs') (hs : SubB wr u' u) : Lg w w' p q room O bs xs' ∧ KeepInt wr w' := by
  have hne := buf_ne h5 h6
  refine ⟨⟨h.touch.step ht (fun i hi => .inr (by rw [hi]; exact h.hq)), h.hp, h.hq, fun b hb => Nat.lt_of_lt_of_le (h.oo b hb) ht.size, v, u', h5.touch ht hne (h5.row.ne h6.box h6.ty), hb, h7, ?_⟩, h.keep (ht.mono (fun _ _ h => .inr h))⟩
  intro b hb' ho
  rcases hs b hb' with h | h'
  · exact h8 b h ho
  · have := h.oo b ho; omega

theorem lg_Full (h : Lg w wr p q room O bs xs) : Calls Try.prog 30 #[.pointer (some ⟨p, 0, none⟩)] wr fun e w' => e = .returned (.bool (((bs.length : Nat) : Int) == room)) ∧ Lg w w' p q room O bs xs ∧ KeepInt wr w' := by
  obtain ⟨v, u, h5, h6, h7, h8⟩ := h.ex
  exact (buf_Full h5).mono fun e w' g => ⟨g.1, h.old g.2, .old g.2⟩
theorem lg_Len (h : Lg w wr p q room O bs xs) : Calls Try.prog 34 #[.pointer (some ⟨p, 0, none⟩)] wr fun e w' => e = .returned (.int .i64 bs.length) ∧ wr = w' := by
  obtain ⟨v, u, h5, h6, h7, h8⟩ := h.ex
  exact buf_Len h5
theorem lg_BLen (h : Lg w wr p q room O bs xs) : Calls Try.prog 42 #[.pointer (some ⟨q, 0, none⟩)] wr fun e w' => e = .returned (.int .i64 xs.length) ∧ wr = w' := by
  obtain ⟨v, u, h5, h6, h7, h8⟩ := h.ex
  exact box_Len h6
theorem lg_All (h : Lg w wr p q room O bs xs) : Calls Try.prog 43 #[.pointer (some ⟨p, 0, none⟩)] wr fun e w' => ∃ v', e = .returned v' ∧ SlAt w' v' bs ∧ Lg w w' p q room O bs xs ∧ KeepInt wr w' := by
  obtain ⟨v, u, h5, h6, h7, h8⟩ := h.ex
  exact (buf_All h5).mono fun e w' ⟨v', g1, g2, g3⟩ => ⟨v', g1, g3, h.old g2, .old g2⟩
theorem lg_Next_no (h : Lg w wr p q room O [] xs) : Calls Try.prog 40 #[.pointer (some ⟨p, 0, none⟩)] wr fun e w' => e = .returned (.tuple #[.int .i64 0, .bool false]) ∧ wr = w' := by
  obtain ⟨v, u, h5, h6, h7, h8⟩ := h.ex
  exact buf_Next_no h5
theorem lg_BNext_no (h : Lg w wr p q room O bs []) : Calls Try.prog 31 #[.pointer (some ⟨q, 0, none⟩)] wr fun e w' => e = .returned (.tuple #[.int .i64 0, .bool false]) ∧ wr = w' := by
  obtain ⟨v, u, h5, h6, h7, h8⟩ := h.ex
  exact box_Next_no h6
theorem lg_Next_ok {x : Int} (h : Lg w wr p q room O (x :: bs) xs) : Calls Try.prog 40 #[.pointer (some ⟨p, 0, none⟩)] wr fun e w' => e = .returned (.tuple #[.int .i64 x, .bool true]) ∧ Lg w w' p q room O bs xs ∧ KeepInt wr w' := by
  obtain ⟨v, u, h5, h6, h7, h8⟩ := h.ex
  exact (buf_Next_ok h5).mono fun e w' ⟨g1, g2, v', g3, g4⟩ => ⟨g1, h.buf h5 h6 h7 h8 g2 g3 g4⟩
theorem lg_BNext_ok {x : Int} (h : Lg w wr p q room O bs (x :: xs)) : Calls Try.prog 31 #[.pointer (some ⟨q, 0, none⟩)] wr fun e w' => e = .returned (.tuple #[.int .i64 x, .bool true]) ∧ Lg w w' p q room O bs xs ∧ KeepInt wr w' := by
  obtain ⟨v, u, h5, h6, h7, h8⟩ := h.ex
  exact (box_Next_ok h6).mono fun e w' ⟨g1, g2, v', g3, g4⟩ => ⟨g1, h.box h5 h6 h7 h8 g2 g3 g4⟩
theorem lg_Clear (h : Lg w wr p q room O bs xs) : Calls Try.prog 41 #[.pointer (some ⟨p, 0, none⟩)] wr fun e w' => e = .returned (.tuple #[]) ∧ Lg w w' p q room O [] xs ∧ KeepInt wr w' := by
  obtain ⟨v, u, h5, h6, h7, h8⟩ := h.ex
  exact (buf_Clear h5).mono fun e w' ⟨g1, g2, g3⟩ => ⟨g1, h.buf h5 h6 h7 h8 g2 g3 (subB_nil _ _)⟩
theorem lg_Add_no (h : Lg w wr p q room O bs xs) (x : Int) (hr : (((bs.length : Nat) : Int) == room) = true) : Calls Try.prog 33 #[.pointer (some ⟨p, 0, none⟩), .int .i64 x] wr fun e w' => e = .returned (.bool false) ∧ Lg w w' p q room O bs xs ∧ KeepInt wr w' := by
  obtain ⟨v, u, h5, h6, h7, h8⟩ := h.ex
  exact (buf_Add_no h5 x hr).mono fun e w' g => ⟨g.1, h.old g.2, .old g.2⟩
theorem lg_Add_ok (h : Lg w wr p q room O bs xs) (x : Int) (hr : (((bs.length : Nat) : Int) == room) = false) (hl : bs.length < 4096) : Calls Try.prog 33 #[.pointer (some ⟨p, 0, none⟩), .int .i64 x] wr fun e w' => e = .returned (.bool true) ∧ Lg w w' p q room O (bs ++ [x]) xs ∧ KeepInt wr w' := by
  obtain ⟨v, u, h5, h6, h7, h8⟩ := h.ex
  exact (buf_Add_ok h5 x hr hl).mono fun e w' ⟨g1, g2, v', g3, g4⟩ => ⟨g1, h.buf h5 h6 h7 h8 g2 g3 g4⟩
theorem lg_Hand_no {y : Int} (h : Lg w wr p q room O bs (y :: xs)) : Calls Try.prog 32 #[.pointer (some ⟨q, 0, none⟩), .pointer (some ⟨p, 0, none⟩)] wr fun e w' => e = .returned (.bool false) ∧ wr = w' := by
  obtain ⟨v, u, h5, h6, h7, h8⟩ := h.ex
  exact box_Hand_no h5 h6
theorem lg_Hand_ok (h : Lg w wr p q room O bs []) : Calls Try.prog 32 #[.pointer (some ⟨q, 0, none⟩), .pointer (some ⟨p, 0, none⟩)] wr fun e w' => e = .returned (.bool true) ∧ Lg w w' p q room O [] bs ∧ KeepInt wr w' := by
  obtain ⟨v, u, h5, h6, h7, h8⟩ := h.ex
  refine (box_Hand_ok h5 h6).mono fun e w' ⟨g1, g2, u', g3, g4, g5⟩ => ⟨g1, ⟨h.touch.step g2 (fun i hi => .inr (by rcases hi with rfl | rfl; exact h.hp; exact h.hq)), h.hp, h.hq, fun b hb => Nat.lt_of_lt_of_le (h.oo b hb) g2.size, _, _, g3, g4, (fun b hb => by cases hb), ?_⟩, h.keep g2⟩
  intro b hb ho
  rcases g5 b hb with h' | h'
  · cases h'
  · have := h.oo b ho; omega
theorem lg_New (n : Int) (h0 : 1 ≤ n) (h1 : n ≤ 256) (w : World) : Calls Try.prog 28 #[.int .i64 n] w fun e w' => ∃ p, e = .returned (.tuple #[.pointer (some ⟨p, 0, none⟩), .int .i64 0]) ∧ w.heap.size ≤ p ∧ Touch nob w w' ∧ BufAt w' p n (.slice none 0 0) [] := log_New_ok n h0 h1 w
theorem lg_both {w1 w2 : World} (h1 : Touch nob w w1) (hp : w.heap.size ≤ p) (hq : w1.heap.size ≤ q) (hb : BufAt w1 p room (.slice none 0 0) []) (h2 : Touch nob w1 w2) (hx : BoxAt w2 q (.slice none 0 0) []) : Lg w w2 p q room (fun _ => False) [] [] :=
  ⟨h1.trans h2, hp, Nat.le_trans h1.size hq, fun _ h => h.elim, _, _, hb.old h2, hx, (fun b hb => by cases hb), (fun b hb => by cases hb)⟩

theorem log_none (w : World) :
    (Calls Try.prog 41 #[.pointer none] w fun e w' => e = .returned (.tuple #[]) ∧ w = w') ∧
    (Calls Try.prog 40 #[.pointer none] w fun e w' => e = .returned (.tuple #[.int .i64 0, .bool false]) ∧ w = w') ∧
    (Calls Try.prog 31 #[.pointer none] w fun e w' => e = .returned (.tuple #[.int .i64 0, .bool false]) ∧ w = w') ∧
    (∀ x, Calls Try.prog 33 #[.pointer none, .int .i64 x] w fun e w' => e = .returned (.bool false) ∧ w = w') ∧
    (Calls Try.prog 30 #[.pointer none] w fun e w' => e = .returned (.bool false) ∧ Touch nob w w') ∧
    (Calls Try.prog 34 #[.pointer none] w fun e w' => e = .returned (.int .i64 0) ∧ w = w') ∧
    (Calls Try.prog 43 #[.pointer none] w fun e w' => e = .returned (.slice none 0 0) ∧ w = w') ∧
    (Calls Try.prog 32 #[.pointer none, .pointer none] w fun e w' => e = .returned (.bool false) ∧ w = w') ∧
    (∀ q, Calls Try.prog 32 #[.pointer (some ⟨q, 0, none⟩), .pointer none] w fun e w' => e = .returned (.bool false) ∧ w = w') ∧
    (Calls Try.prog 42 #[.pointer none] w fun e w' => e = .returned (.int .i64 0) ∧ w = w') := by
  refine ⟨?_, ?_, ?_, fun x => ?_, ?_, ?_, ?_, ?_, fun q => ?_, ?_⟩
  · go_enter Try.func41, Try.ntmps41
    go_wp2
    go_end0
    exact ⟨rfl, rfl⟩
  · go_enter Try.func40, Try.ntmps40
    go_wp2
    go_ret2
    exact ⟨rfl, rfl⟩
  · go_enter Try.func31, Try.ntmps31
    go_wp2
    go_ret2
    exact ⟨rfl, rfl⟩
  · go_enter Try.func33, Try.ntmps33
    go_wp2
    go_ret
    exact ⟨rfl, rfl⟩
  · go_enter Try.func30, Try.ntmps30
    go_wp2_with fail
    go_quiet (fail)
    go_wp2
    go_ret
    exact ⟨rfl, (Touch.refl _ _).drewN _⟩
  · go_enter Try.func34, Try.ntmps34
    go_wp2
    go_ret
    exact ⟨rfl, rfl⟩
  · go_enter Try.func43, Try.ntmps43
    go_wp2
    go_ret
    exact ⟨rfl, rfl⟩
  · go_enter Try.func32, Try.ntmps32
    go_wp2
    go_ret
    exact ⟨rfl, rfl⟩
  · go_enter Try.func32, Try.ntmps32
    go_wp2
    go_ret
    exact ⟨rfl, rfl⟩
  · go_enter Try.func42, Try.ntmps42
    go_wp2
    go_ret
    exact ⟨rfl, rfl⟩

theorem law10_awake (w : World) : Calls Try.prog 27 #[] w fun e w' => e = .returned (.bool true) ∧ Touch nob w w' := by
  go_enter Try.func27, Try.ntmps27
  go_wp2_with (go_at_call 28; fail)
  refine (log_New_ok 2 (by omega) (by omega) _).mono ?_
  rintro e w1 ⟨p, rfl, hp, hT1, hb⟩
  go_wp2_with (go_at_call 29; fail)
  refine (log_NewBox _).mono ?_
  rintro e w2 ⟨q, rfl, hq, hT2, hx⟩
  have h := lg_both hT1 hp hq hb hT2 hx
  clear hT1 hb hT2 hx hp hq
  go_wp2_with (go_at_call 33; fail)
  refine (lg_Add_ok h 7 (by simp) (by simp)).mono ?_
  rintro e w3 ⟨rfl, h3, _⟩
  go_wp2_with (go_at_call 33; fail)
  refine (lg_Add_ok h3 8 (by simp) (by simp)).mono ?_
  rintro e w4 ⟨rfl, h4, _⟩
  go_wp2_with (go_at_call 30; fail)
  refine (lg_Full h4).mono ?_
  rintro e w5 ⟨rfl, h5, _⟩
  have hl2 : ((((([] : List Int) ++ [7] ++ [8]).length : Nat) : Int) == 2) = true := by simp
  rw [hl2]
  go_wp2_with (go_at_call 32; fail)
  refine (lg_Hand_ok h5).mono ?_
  rintro e w6 ⟨rfl, h6, _⟩
  go_wp2_with (go_at_call 31; fail)
  refine (lg_BNext_ok (x := 7) (xs := [8]) h6).mono ?_
  rintro e w7 ⟨rfl, h7, _⟩
  go_wp2
  go_ret
  exact ⟨rfl, h7.touch⟩

set_option maxHeartbeats 400000 in
theorem law_LogNone (r : Int) (_ : (Lit.int .i64 r).wf = true) (n : Int) (_ : (Lit.int .i64 n).wf = true) (w : World) :
    Calls Try.prog 13 #[.int .i64 r, .int .i64 n] w fun e w' => e = .returned (.bool true) ∧ Below w.heap.size w w' := by
  have HN := Lib.hid (fun w : World => log_none w)
  rcases (show r < 1 ∨ 256 < r ∨ (1 ≤ r ∧ r ≤ 256) by omega) with h | h | ⟨h, h'⟩
  all_goals
    go_enter Try.func13, Try.ntmps13
    go_wp2_with (first | (go_at_call 28; refine (log_New_no _ (by omega) _).mono ?_; rintro e w' ⟨rfl, rfl⟩) | (go_at_call 41; refine ((HN.out _).1).mono ?_; rintro e w' ⟨rfl, rfl⟩) | (go_at_call 40; refine ((HN.out _).2.1).mono ?_; rintro e w' ⟨rfl, rfl⟩) | (go_at_call 31; refine ((HN.out _).2.2.1).mono ?_; rintro e w' ⟨rfl, rfl⟩) | (go_at_call 33; refine ((HN.out _).2.2.2.1 _).mono ?_; rintro e w' ⟨rfl, rfl⟩) | (go_at_call 30; refine ((HN.out _).2.2.2.2.1).mono ?_; rintro e w1 ⟨rfl, hT1⟩) | (go_at_call 34; refine ((HN.out _).2.2.2.2.2.1).mono ?_; rintro e w' ⟨rfl, rfl⟩) | (go_at_call 43; refine ((HN.out _).2.2.2.2.2.2.1).mono ?_; rintro e w' ⟨rfl, rfl⟩) | (go_at_call 32; fail))
    refine (HN.out _).2.2.2.2.2.2.2.1.mono ?_
    rintro e w' ⟨rfl, rfl⟩
    go_wp2_with (first | (go_at_call 42; refine ((HN.out _).2.2.2.2.2.2.2.2.2).mono ?_; rintro e w' ⟨rfl, rfl⟩) | (go_at_call 29; refine (log_NewBox _).mono ?_; rintro e w2 ⟨q, rfl, hq, hT2, hx⟩) | (go_at_call 32; fail))
    refine ((HN.out _).2.2.2.2.2.2.2.2.1 _).mono ?_
    rintro e w' ⟨rfl, rfl⟩
    go_wp2_with (go_at_call 27; refine (law10_awake _).mono ?_; rintro e w3 ⟨rfl, hT3⟩)
    go_ret
    exact ⟨rfl, ((hT1.trans hT2).trans hT3).below⟩
end Go.Proofs.Ythdlgffpcfjbiaa
