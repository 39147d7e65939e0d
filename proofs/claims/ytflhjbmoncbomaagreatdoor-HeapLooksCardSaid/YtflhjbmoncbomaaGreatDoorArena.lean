/- The arena's functions, walked. Conditions: none beyond what each says. -/
import Derived.Test.YtflhjbmoncbomaaGreatDoorRep
import Derived.Deep.QuietTactic
import Derived.BigQuiet
import Derived.Deep.RegionWith
namespace Go.Proofs.YtflhjbmoncbomaaGreatDoor
open Go.RowKit

/-- An arena: its box, and its words. -/
structure ArenaAt (w : World) (p q cap : Nat) (ws : List Int) (lo st : Int) : Prop where
  box : w.heap[p]? = some (.cells #[.slice (some ⟨q, 0, none⟩) ws.length cap, .int .i64 lo, .int .i64 st] 138)
  row : RowAt w q 113 cap (ws.map (.int .u64))
  len : 1 ≤ ws.length ∧ ws.length ≤ 1048576
theorem ArenaAt.ne {w : World} {p q cap : Nat} {ws : List Int} {lo st : Int} (h : ArenaAt w p q cap ws lo st) : p ≠ q := by
  rintro rfl
  obtain ⟨_, h1, _⟩ := h.row
  have := h.box.symm.trans h1
  simp at this
theorem ArenaAt.touch {S : Nat → Prop} {w w' : World} {p q cap : Nat} {ws : List Int} {lo st : Int} (h : ArenaAt w p q cap ws lo st) (ht : Touch S w w') (hp : ¬ S p) (hq : ¬ S q) : ArenaAt w' p q cap ws lo st :=
  ⟨blk_touch h.box ht hp, h.row.touch ht hq, h.len⟩

/-- What a load, or a store, answers: 0 is OK. -/
def atE (n : Nat) (a : Int) : Int := if a = 0 then 6 else if a < 0 ∨ (n : Int) < a then 4 else 0
theorem atE_ok {n : Nat} {a : Int} (h : 1 ≤ a) (h' : a ≤ n) : atE n a = 0 := by unfold atE; rw [if_neg (by omega), if_neg (by omega)]


theorem arena_Load_ok (p q cap : Nat) (ws : List Int) (lo st : Int) (j : Nat) (w : World) (h : ArenaAt w p q cap ws lo st) (hj : j < ws.length) :
    Calls Tryz.prog 75 #[.pointer (some ⟨p, 0, none⟩), .int .i64 (j + 1)] w fun e w' => e = .returned (.tuple #[.int .u64 (ws.getD j 0), .int .i64 0]) ∧ Touch (fun b => b = p) w w' ∧ ArenaAt w' p q cap ws (wrap64 (lo + 1)) st := by
  have hmf := hmkf
  go_enter Tryz.func75, Tryz.ntmps75
  go_wp2_with fail
  obtain ⟨W, hW⟩ : ∃ W, W = (w.alloc (Obj.cells #[.pointer (some ⟨p, 0, none⟩)] 95)).alloc (Obj.cells #[.int .u64 0] 113) := ⟨_, rfl⟩
  obtain ⟨b, hb⟩ : ∃ b, b = w.heap.size := ⟨_, rfl⟩
  rw [← hW, ← hb]
  obtain ⟨c0, f0⟩ := box1 (show W.heap[b]? = some _ by rw [hW, hb]; exact alloc2_0 w _ _)
  obtain ⟨c1, f1⟩ := box1 (show W.heap[b + 1]? = some _ by rw [hW, hb]; exact alloc2_1 w _ _)
  have hT : Touch nob w W := by rw [hW]; (repeat (first | with_reducible exact Touch.refl _ _ | with_reducible assumption | with_reducible apply Touch.alloc | with_reducible apply Touch.drewN | with_reducible apply Touch.drew | with_reducible refine Touch.setCell ?_ (.inr (by first | omega | (simp; done) | (simp; omega))) _))
  have hA := h.touch hT (fun x => x) (fun x => x)
  obtain ⟨d0, d1, d2, e0, e1, e2⟩ := box3 hA.box
  have hlp := blk_lt h.box
  have hlq := h.row.lt
  have hne := h.ne
  obtain ⟨hl1, hl⟩ := h.len
  have hbp : ¬ p = b := by omega
  have hbp1 : ¬ p = b + 1 := by omega
  have hbq : ¬ q = b := by omega
  have hbq1 : ¬ q = b + 1 := by omega
  have dq := hA.row.cell (j := j) (by simpa using hj)
  simp only [List.getElem_map] at dq
  have HX := Lib.hid (And.intro hT (And.intro hA (And.intro h (And.intro hb hW))))
  clear hT hA h hb hW
  go_wp2
  go_end0
  go_wp2
  go_ret2
  obtain ⟨hT, hA, h, hb, hW⟩ := HX.out
  clear HX
  subst hb
  have hg : ws.getD j 0 = ws[j] := by simp [hj]
  refine ⟨by rw [hg]; rfl, ?_, ?_, ?_, ⟨hl1, hl⟩⟩
  · refine Touch.setCell (S := fun b => b = p) ?_ (.inl rfl) _
    refine Touch.setCell (hT.mono (fun _ _ h => h.elim)) (.inr ?_) _
    exact Nat.le_succ _
  · exact blk_set ((set_other _ (by omega)).trans hA.box) rfl
  · exact (hA.row.other (by omega) _ _).other (by omega) _ _

theorem arena_Load_no (p q cap : Nat) (ws : List Int) (lo st a : Int) (w : World) (h : ArenaAt w p q cap ws lo st) (ha : a < 1 ∨ ws.length < a) :
    Calls Tryz.prog 75 #[.pointer (some ⟨p, 0, none⟩), .int .i64 a] w fun e w' => e = .returned (.tuple #[.int .u64 0, .int .i64 (atE ws.length a)]) ∧ Touch nob w w' := by
  have hmf := hmkf
  have HE : Hid ((a = 0 → atE ws.length a = 6) ∧ (a < 0 → atE ws.length a = 4) ∧ (ws.length < a → atE ws.length a = 4)) := by
    refine ⟨fun h => ?_, fun h => ?_, fun h => ?_⟩ <;> unfold atE <;> (repeat (first | rw [if_pos (by omega)] | rw [if_neg (by omega)]))
  rcases (show a = 0 ∨ a < 0 ∨ (ws.length : Int) < a by omega) with h0 | h0 | h0
  all_goals
    have HH := Lib.hid h0
    go_enter Tryz.func75, Tryz.ntmps75
    go_wp2_with fail
    obtain ⟨W, hW⟩ : ∃ W, W = (w.alloc (Obj.cells #[.pointer (some ⟨p, 0, none⟩)] 95)).alloc (Obj.cells #[.int .u64 0] 113) := ⟨_, rfl⟩
    obtain ⟨b, hb⟩ : ∃ b, b = w.heap.size := ⟨_, rfl⟩
    rw [← hW, ← hb]
    obtain ⟨c0, f0⟩ := box1 (show W.heap[b]? = some _ by rw [hW, hb]; exact alloc2_0 w _ _)
    obtain ⟨c1, f1⟩ := box1 (show W.heap[b + 1]? = some _ by rw [hW, hb]; exact alloc2_1 w _ _)
    have hT : Touch nob w W := by rw [hW]; (repeat (first | with_reducible exact Touch.refl _ _ | with_reducible assumption | with_reducible apply Touch.alloc | with_reducible apply Touch.drewN | with_reducible apply Touch.drew | with_reducible refine Touch.setCell ?_ (.inr (by first | omega | (simp; done) | (simp; omega))) _))
    have hA := h.touch hT (fun x => x) (fun x => x)
    obtain ⟨d0, d1, d2, e0, e1, e2⟩ := box3 hA.box
    have hlp := blk_lt h.box
    have hlq := h.row.lt
    have hne := h.ne
    obtain ⟨hl1, hl⟩ := h.len
    have hbp : ¬ p = b := by omega
    have hbp1 : ¬ p = b + 1 := by omega
    have hbq : ¬ q = b := by omega
    have hbq1 : ¬ q = b + 1 := by omega
    have HX := Lib.hid (And.intro hT (And.intro hA (And.intro h (And.intro hb hW))))
    clear hT hA h hb hW
    go_wp2
    go_ret2
    obtain ⟨hT, hA, h, hb, hW⟩ := HX.out
    exact ⟨by first | rw [HE.out.1 HH.out]; rfl | rw [HE.out.2.1 HH.out]; rfl | rw [HE.out.2.2 HH.out]; rfl, hT⟩

theorem arena_Store_ok (p q cap : Nat) (ws : List Int) (lo st x : Int) (j : Nat) (w : World) (h : ArenaAt w p q cap ws lo st) (hj : j < ws.length) :
    Calls Tryz.prog 93 #[.pointer (some ⟨p, 0, none⟩), .int .i64 (j + 1), .int .u64 x] w fun e w' => e = .returned (.int .i64 0) ∧ Touch (fun b => b = p ∨ b = q) w w' ∧ ArenaAt w' p q cap (ws.set j x) lo (wrap64 (st + 1)) := by
  have hmf := hmkf
  go_enter Tryz.func93, Tryz.ntmps93
  go_wp2_with fail
  obtain ⟨W, hW⟩ : ∃ W, W = (w.alloc (Obj.cells #[.pointer (some ⟨p, 0, none⟩)] 95)).alloc (Obj.cells #[.int .u64 x] 113) := ⟨_, rfl⟩
  obtain ⟨b, hb⟩ : ∃ b, b = w.heap.size := ⟨_, rfl⟩
  rw [← hW, ← hb]
  obtain ⟨c0, f0⟩ := box1 (show W.heap[b]? = some _ by rw [hW, hb]; exact alloc2_0 w _ _)
  obtain ⟨c1, f1⟩ := box1 (show W.heap[b + 1]? = some _ by rw [hW, hb]; exact alloc2_1 w _ _)
  have hT : Touch nob w W := by rw [hW]; (repeat (first | with_reducible exact Touch.refl _ _ | with_reducible assumption | with_reducible apply Touch.alloc | with_reducible apply Touch.drewN | with_reducible apply Touch.drew | with_reducible refine Touch.setCell ?_ (.inr (by first | omega | (simp; done) | (simp; omega))) _))
  have hA := h.touch hT (fun x => x) (fun x => x)
  obtain ⟨d0, d1, d2, e0, e1, e2⟩ := box3 hA.box
  have hlp := blk_lt h.box
  have hlq := h.row.lt
  have hne := h.ne
  obtain ⟨hl1, hl⟩ := h.len
  have hbp : ¬ p = b := by omega
  have hbp1 : ¬ p = b + 1 := by omega
  have hbq : ¬ q = b := by omega
  have hbq1 : ¬ q = b + 1 := by omega
  have dq := hA.row.cell (j := j) (by simpa using hj)
  have dqf := hA.row.free j
  simp only [List.getElem_map] at dq
  have HX := Lib.hid (And.intro hT (And.intro hA (And.intro h (And.intro hb hW))))
  clear hT hA h hb hW
  go_wp2
  go_end0
  go_wp2
  go_ret
  obtain ⟨hT, hA, h, hb, hW⟩ := HX.out
  clear HX
  subst hb
  refine ⟨rfl, ?_, ?_, ?_, by simpa using ⟨hl1, hl⟩⟩
  · exact ((hT.mono (fun _ _ h => h.elim)).setCell (.inl (.inr rfl)) _).setCell (.inl (.inl rfl)) _
  · exact blk_set ((set_other _ (by omega)).trans hA.box) (by rw [List.length_set]; rfl)
  · rw [List.map_set]
    exact (hA.row.set _ _).other (by omega) _ _

theorem arena_Store_no (p q cap : Nat) (ws : List Int) (lo st a x : Int) (w : World) (h : ArenaAt w p q cap ws lo st) (ha : a < 1 ∨ ws.length < a) :
    Calls Tryz.prog 93 #[.pointer (some ⟨p, 0, none⟩), .int .i64 a, .int .u64 x] w fun e w' => e = .returned (.int .i64 (atE ws.length a)) ∧ Touch nob w w' := by
  have hmf := hmkf
  have HE : Hid ((a = 0 → atE ws.length a = 6) ∧ (a < 0 → atE ws.length a = 4) ∧ (ws.length < a → atE ws.length a = 4)) := by
    refine ⟨fun h => ?_, fun h => ?_, fun h => ?_⟩ <;> unfold atE <;> (repeat (first | rw [if_pos (by omega)] | rw [if_neg (by omega)]))
  rcases (show a = 0 ∨ a < 0 ∨ (ws.length : Int) < a by omega) with h0 | h0 | h0
  all_goals
    have HH := Lib.hid h0
    go_enter Tryz.func93, Tryz.ntmps93
    go_wp2_with fail
    obtain ⟨W, hW⟩ : ∃ W, W = (w.alloc (Obj.cells #[.pointer (some ⟨p, 0, none⟩)] 95)).alloc (Obj.cells #[.int .u64 x] 113) := ⟨_, rfl⟩
    obtain ⟨b, hb⟩ : ∃ b, b = w.heap.size := ⟨_, rfl⟩
    rw [← hW, ← hb]
    obtain ⟨c0, f0⟩ := box1 (show W.heap[b]? = some _ by rw [hW, hb]; exact alloc2_0 w _ _)
    obtain ⟨c1, f1⟩ := box1 (show W.heap[b + 1]? = some _ by rw [hW, hb]; exact alloc2_1 w _ _)
    have hT : Touch nob w W := by rw [hW]; (repeat (first | with_reducible exact Touch.refl _ _ | with_reducible assumption | with_reducible apply Touch.alloc | with_reducible apply Touch.drewN | with_reducible apply Touch.drew | with_reducible refine Touch.setCell ?_ (.inr (by first | omega | (simp; done) | (simp; omega))) _))
    have hA := h.touch hT (fun x => x) (fun x => x)
    obtain ⟨d0, d1, d2, e0, e1, e2⟩ := box3 hA.box
    have hlp := blk_lt h.box
    have hlq := h.row.lt
    have hne := h.ne
    obtain ⟨hl1, hl⟩ := h.len
    have hbp : ¬ p = b := by omega
    have hbp1 : ¬ p = b + 1 := by omega
    have hbq : ¬ q = b := by omega
    have hbq1 : ¬ q = b + 1 := by omega
    have HX := Lib.hid (And.intro hT (And.intro hA (And.intro h (And.intro hb hW))))
    clear hT hA h hb hW
    go_wp2
    go_ret
    obtain ⟨hT, hA, h, hb, hW⟩ := HX.out
    exact ⟨by first | rw [HE.out.1 HH.out]; rfl | rw [HE.out.2.1 HH.out]; rfl | rw [HE.out.2.2 HH.out]; rfl, hT⟩

theorem arena_Len (p q cap : Nat) (ws : List Int) (lo st : Int) (w : World) (h : ArenaAt w p q cap ws lo st) :
    Calls Tryz.prog 106 #[.pointer (some ⟨p, 0, none⟩)] w fun e w' => e = .returned (.int .i64 ws.length) ∧ w = w' := by
  obtain ⟨d0, d1, d2, e0, e1, e2⟩ := box3 h.box
  obtain ⟨hl1, hl⟩ := h.len
  go_enter Tryz.func106, Tryz.ntmps106
  go_wp2
  go_ret
  exact ⟨rfl, rfl⟩
theorem made_u64 (n : Nat) : (madeCells (Value.int .u64 0).cells (n * 1)).toList = (List.replicate n (0 : Int)).map (Value.int .u64) := by
  apply List.ext_getElem?
  intro i
  simp only [madeCells, Nat.mul_one, Array.toList_map, Array.toList_range, List.getElem?_map]
  by_cases hi : i < n
  · simp [hi, Value.cells, Nat.mod_one]
  · simp [hi]

set_option maxRecDepth 20000 in
theorem arena_New_ok (n : Nat) (hn : 1 ≤ n ∧ n ≤ 1048576) (w : World) :
    Calls Tryz.prog 58 #[.int .i64 n] w fun e w' => ∃ p q, e = .returned (.tuple #[.pointer (some ⟨p, 0, none⟩), .int .i64 0]) ∧ Touch nob w w' ∧ w.heap.size ≤ p ∧ w.heap.size ≤ q ∧ ArenaAt w' p q n (List.replicate n 0) 0 0 := by
  obtain ⟨i0, hi, hz0, hz1, hz2⟩ := info_parts info_u64
  obtain ⟨h0, h1⟩ := hn
  go_enter Tryz.func58, Tryz.ntmps58
  go_wp2_with (at_make; refine wpList_make_full _ rfl _ _ 136 rfl w.heap.size 113 i0 (.int .u64 0) 1 Tryz.underlying136 hi hz0 hz1 .i64 .i64 _ _ n rfl rfl rfl rfl (by rw [hz2]; omega) (by unfold maxLen; omega) (Nat.le_refl _) ?_; intro w1 hown hgrow; have HX := Lib.hid (And.intro hown hgrow); clear hown hgrow)
  go_ret2
  obtain ⟨hown, hgrow⟩ := HX.out
  rw [made_u64] at hown
  obtain ⟨hr, _, _⟩ := RowAt.of_owns hown
  have hT : Touch nob w w1 := (Touch.refl nob w).grown hgrow (fun _ h => by cases h)
  refine ⟨w1.heap.size, w.heap.size, rfl, hT.alloc _, hgrow.size, Nat.le_refl _, ⟨(World.alloc_heap_new w1 _).trans (by rw [List.length_replicate]), hr.touch ((Touch.refl nob _).alloc _) (fun x => x), by rw [List.length_replicate]; exact ⟨h0, h1⟩⟩⟩

theorem arena_New_no (n : Int) (hn : n < 1 ∨ 1048576 < n) (w : World) :
    Calls Tryz.prog 58 #[.int .i64 n] w fun e w' => e = .returned (.tuple #[.pointer none, .int .i64 4]) ∧ w = w' := by
  rcases hn with h | h
  all_goals
    go_enter Tryz.func58, Tryz.ntmps58
    go_wp2
    go_ret2
    exact ⟨rfl, rfl⟩
end Go.Proofs.YtflhjbmoncbomaaGreatDoor
