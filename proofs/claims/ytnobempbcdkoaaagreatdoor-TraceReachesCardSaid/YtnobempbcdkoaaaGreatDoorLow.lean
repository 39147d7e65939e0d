/- The arena's functions, walked. Conditions: none beyond what each says. The class functions, walked: what each returns. Conditions: the table of sizes reads as laid. The document's answers for classes, walked: each returns what the program's own function does. Bit operations on uint64, as arithmetic. Conditions: none; no program. The header functions, walked. Conditions: the table of sizes reads as laid. The config functions, walked. Conditions: the table of limits reads as laid. A region that draws its order, within a round of a range over a function: one walk in the order of the text serves every order. Conditions: its operations only read and call quietly; none defers. A region that draws its order: operations that only read and call quietly (in a class of worlds), then a tail in one forced order (a store, an append, a call that writes). Conditions: two closed tests of the region. No program in it. The document's answers for configs, walked: each returns what the program's own function does. Conditions: none. What is laid: sizes, limits; boxes of configs. Conditions: none. The addr functions, walked. Conditions: the tables of limits and of sizes read as laid. Slot and Find, walked. Conditions: the tables of limits and of sizes read as laid. The document's answers for addresses, walked. Conditions: none. class.Starts: an iterator over a block's slots. Conditions: the table of sizes reads as laid. A range over a function that fills a row: general lemmas. Conditions: none. -/
import Derived.Test.YtnobempbcdkoaaaGreatDoorRep
import Derived.Deep.QuietTactic
import Derived.BigQuiet
import Derived.Deep.RegionWith
import Derived.Test.YtnobempbcdkoaaaGreatDoorProg
import Derived.WalkKit
import Derived.WalkSpells
import Derived.WalkLawsBesides
import Derived.Lib.Hide
import Derived.BigRegion
import Derived.Lib.QuietBelow
import Derived.ChangeAlike
import Derived.OrdersIn
import Derived.StillTail
import Derived.Deep.Cut
import Derived.Shelf.Abstract
import Derived.Shelf.RegionOpen
import Derived.OwnWalkIn
import Derived.TacticsInMore
import Derived.LoopNIn
import Derived.LoopIn
import Derived.Maps.OwnIn
namespace Go.Proofs.YtnobempbcdkoaaaGreatDoor
open Go.RowKit

/-- An arena: its box, and its words. -/
structure ArenaAt (w : World) (p q cap : Nat) (ws : List Int) (lo st : Int) : Prop where
  box : w.heap[p]? = some (.cells #[.slice (some ⟨q, 0, none⟩) ws.length cap, .int .i64 lo, .int .i64 st] 166)
  row : RowAt w q 112 cap (ws.map (.int .u64))
  len : 1 ≤ ws.length ∧ ws.length ≤ 1048576
theorem ArenaAt.ne {w : World} {p q cap : Nat} {ws : List Int} {lo st : Int} (h : ArenaAt w p q cap ws lo st) : p ≠ q := by
  rintro rfl
  obtain ⟨_, h1, _⟩ := h.row
  have := h.box.symm.trans h1
  simp at this
theorem ArenaAt.touch {S : Nat → Prop} {w w' : World} {p q cap : Nat} {ws : List Int} {lo st : Int} (h : ArenaAt w p q cap ws lo st) (ht : Touch S w w') (hp : ¬ S p) (hq : ¬ S q) : ArenaAt w' p q cap ws lo st :=
  ⟨blk_touch h.box ht hp, h.row.touch ht hq, h.len⟩

/-- What a load, or a store, answers: 0 is OK. -/
def atE (n : Nat) (a : Int) : Int := if a = 0 then 6 else if a < 0 ∨ (n : Int) < a then 4 else 0
theorem atE_ok {n : Nat} {a : Int} (h : 1 ≤ a) (h' : a ≤ n) : atE n a = 0 := by unfold atE; rw [if_neg (by omega), if_neg (by omega)]


theorem arena_Load_ok (p q cap : Nat) (ws : List Int) (lo st : Int) (j : Nat) (w : World) (h : ArenaAt w p q cap ws lo st) (hj : j < ws.length) :
    Calls Tryz.prog 60 #[.pointer (some ⟨p, 0, none⟩), .int .i64 (j + 1)] w fun e w' => e = .returned (.tuple #[.int .u64 (ws.getD j 0), .int .i64 0]) ∧ Touch (fun b => b = p) w w' ∧ ArenaAt w' p q cap ws (wrap64 (lo + 1)) st := by
  have hmf := hmkf
  go_enter Tryz.func60, Tryz.ntmps60
  go_wp2_with fail
  obtain ⟨W, hW⟩ : ∃ W, W = (w.alloc (Obj.cells #[.pointer (some ⟨p, 0, none⟩)] 105)).alloc (Obj.cells #[.int .u64 0] 112) := ⟨_, rfl⟩
  obtain ⟨b, hb⟩ : ∃ b, b = w.heap.size := ⟨_, rfl⟩
  rw [← hW, ← hb]
  obtain ⟨c0, f0⟩ := box1 (show W.heap[b]? = some _ by rw [hW, hb]; exact alloc2_0 w _ _)
  obtain ⟨c1, f1⟩ := box1 (show W.heap[b + 1]? = some _ by rw [hW, hb]; exact alloc2_1 w _ _)
  have hT : Touch nob w W := by rw [hW]; (repeat (first | with_reducible exact Touch.refl _ _ | with_reducible assumption | with_reducible apply Touch.alloc | with_reducible apply Touch.drewN | with_reducible apply Touch.drew | with_reducible refine Touch.setCell ?_ (.inr (by first | omega | (simp; done) | (simp; omega))) _))
  have hA := h.touch hT (fun x => x) (fun x => x)
  obtain ⟨d0, d1, d2, e0, e1, e2⟩ := box3 hA.box
  have hlp := blk_lt h.box
  have hlq := h.row.lt
  have hne := h.ne
  obtain ⟨hl1, hl⟩ := h.len
  have hbp : ¬ p = b := by omega
  have hbp1 : ¬ p = b + 1 := by omega
  have hbq : ¬ q = b := by omega
  have hbq1 : ¬ q = b + 1 := by omega
  have dq := hA.row.cell (j := j) (by simpa using hj)
  simp only [List.getElem_map] at dq
  have HX := Lib.hid (And.intro hT (And.intro hA (And.intro h (And.intro hb hW))))
  clear hT hA h hb hW
  go_wp2
  go_end0
  go_wp2
  go_ret2
  obtain ⟨hT, hA, h, hb, hW⟩ := HX.out
  clear HX
  subst hb
  have hg : ws.getD j 0 = ws[j] := by simp [hj]
  refine ⟨by rw [hg]; rfl, ?_, ?_, ?_, ⟨hl1, hl⟩⟩
  · refine Touch.setCell (S := fun b => b = p) ?_ (.inl rfl) _
    refine Touch.setCell (hT.mono (fun _ _ h => h.elim)) (.inr ?_) _
    exact Nat.le_succ _
  · exact blk_set ((set_other _ (by omega)).trans hA.box) rfl
  · exact (hA.row.other (by omega) _ _).other (by omega) _ _

theorem arena_Load_no (p q cap : Nat) (ws : List Int) (lo st a : Int) (w : World) (h : ArenaAt w p q cap ws lo st) (ha : a < 1 ∨ ws.length < a) :
    Calls Tryz.prog 60 #[.pointer (some ⟨p, 0, none⟩), .int .i64 a] w fun e w' => e = .returned (.tuple #[.int .u64 0, .int .i64 (atE ws.length a)]) ∧ Touch nob w w' := by
  have hmf := hmkf
  have HE : Hid ((a = 0 → atE ws.length a = 6) ∧ (a < 0 → atE ws.length a = 4) ∧ (ws.length < a → atE ws.length a = 4)) := by
    refine ⟨fun h => ?_, fun h => ?_, fun h => ?_⟩ <;> unfold atE <;> (repeat (first | rw [if_pos (by omega)] | rw [if_neg (by omega)]))
  rcases (show a = 0 ∨ a < 0 ∨ (ws.length : Int) < a by omega) with h0 | h0 | h0
  all_goals
    have HH := Lib.hid h0
    go_enter Tryz.func60, Tryz.ntmps60
    go_wp2_with fail
    obtain ⟨W, hW⟩ : ∃ W, W = (w.alloc (Obj.cells #[.pointer (some ⟨p, 0, none⟩)] 105)).alloc (Obj.cells #[.int .u64 0] 112) := ⟨_, rfl⟩
    obtain ⟨b, hb⟩ : ∃ b, b = w.heap.size := ⟨_, rfl⟩
    rw [← hW, ← hb]
    obtain ⟨c0, f0⟩ := box1 (show W.heap[b]? = some _ by rw [hW, hb]; exact alloc2_0 w _ _)
    obtain ⟨c1, f1⟩ := box1 (show W.heap[b + 1]? = some _ by rw [hW, hb]; exact alloc2_1 w _ _)
    have hT : Touch nob w W := by rw [hW]; (repeat (first | with_reducible exact Touch.refl _ _ | with_reducible assumption | with_reducible apply Touch.alloc | with_reducible apply Touch.drewN | with_reducible apply Touch.drew | with_reducible refine Touch.setCell ?_ (.inr (by first | omega | (simp; done) | (simp; omega))) _))
    have hA := h.touch hT (fun x => x) (fun x => x)
    obtain ⟨d0, d1, d2, e0, e1, e2⟩ := box3 hA.box
    have hlp := blk_lt h.box
    have hlq := h.row.lt
    have hne := h.ne
    obtain ⟨hl1, hl⟩ := h.len
    have hbp : ¬ p = b := by omega
    have hbp1 : ¬ p = b + 1 := by omega
    have hbq : ¬ q = b := by omega
    have hbq1 : ¬ q = b + 1 := by omega
    have HX := Lib.hid (And.intro hT (And.intro hA (And.intro h (And.intro hb hW))))
    clear hT hA h hb hW
    go_wp2
    go_ret2
    obtain ⟨hT, hA, h, hb, hW⟩ := HX.out
    exact ⟨by first | rw [HE.out.1 HH.out]; rfl | rw [HE.out.2.1 HH.out]; rfl | rw [HE.out.2.2 HH.out]; rfl, hT⟩

theorem arena_Store_ok (p q cap : Nat) (ws : List Int) (lo st x : Int) (j : Nat) (w : World) (h : ArenaAt w p q cap ws lo st) (hj : j < ws.length) :
    Calls Tryz.prog 93 #[.pointer (some ⟨p, 0, none⟩), .int .i64 (j + 1), .int .u64 x] w fun e w' => e = .returned (.int .i64 0) ∧ Touch (fun b => b = p ∨ b = q) w w' ∧ ArenaAt w' p q cap (ws.set j x) lo (wrap64 (st + 1)) := by
  have hmf := hmkf
  go_enter Tryz.func93, Tryz.ntmps93
  go_wp2_with fail
  obtain ⟨W, hW⟩ : ∃ W, W = (w.alloc (Obj.cells #[.pointer (some ⟨p, 0, none⟩)] 105)).alloc (Obj.cells #[.int .u64 x] 112) := ⟨_, rfl⟩
  obtain ⟨b, hb⟩ : ∃ b, b = w.heap.size := ⟨_, rfl⟩
  rw [← hW, ← hb]
  obtain ⟨c0, f0⟩ := box1 (show W.heap[b]? = some _ by rw [hW, hb]; exact alloc2_0 w _ _)
  obtain ⟨c1, f1⟩ := box1 (show W.heap[b + 1]? = some _ by rw [hW, hb]; exact alloc2_1 w _ _)
  have hT : Touch nob w W := by rw [hW]; (repeat (first | with_reducible exact Touch.refl _ _ | with_reducible assumption | with_reducible apply Touch.alloc | with_reducible apply Touch.drewN | with_reducible apply Touch.drew | with_reducible refine Touch.setCell ?_ (.inr (by first | omega | (simp; done) | (simp; omega))) _))
  have hA := h.touch hT (fun x => x) (fun x => x)
  obtain ⟨d0, d1, d2, e0, e1, e2⟩ := box3 hA.box
  have hlp := blk_lt h.box
  have hlq := h.row.lt
  have hne := h.ne
  obtain ⟨hl1, hl⟩ := h.len
  have hbp : ¬ p = b := by omega
  have hbp1 : ¬ p = b + 1 := by omega
  have hbq : ¬ q = b := by omega
  have hbq1 : ¬ q = b + 1 := by omega
  have dq := hA.row.cell (j := j) (by simpa using hj)
  have dqf := hA.row.free j
  simp only [List.getElem_map] at dq
  have HX := Lib.hid (And.intro hT (And.intro hA (And.intro h (And.intro hb hW))))
  clear hT hA h hb hW
  go_wp2
  go_end0
  go_wp2
  go_ret
  obtain ⟨hT, hA, h, hb, hW⟩ := HX.out
  clear HX
  subst hb
  refine ⟨rfl, ?_, ?_, ?_, by simpa using ⟨hl1, hl⟩⟩
  · exact ((hT.mono (fun _ _ h => h.elim)).setCell (.inl (.inr rfl)) _).setCell (.inl (.inl rfl)) _
  · exact blk_set ((set_other _ (by omega)).trans hA.box) (by rw [List.length_set]; rfl)
  · rw [List.map_set]
    exact (hA.row.set _ _).other (by omega) _ _

theorem arena_Store_no (p q cap : Nat) (ws : List Int) (lo st a x : Int) (w : World) (h : ArenaAt w p q cap ws lo st) (ha : a < 1 ∨ ws.length < a) :
    Calls Tryz.prog 93 #[.pointer (some ⟨p, 0, none⟩), .int .i64 a, .int .u64 x] w fun e w' => e = .returned (.int .i64 (atE ws.length a)) ∧ Touch nob w w' := by
  have hmf := hmkf
  have HE : Hid ((a = 0 → atE ws.length a = 6) ∧ (a < 0 → atE ws.length a = 4) ∧ (ws.length < a → atE ws.length a = 4)) := by
    refine ⟨fun h => ?_, fun h => ?_, fun h => ?_⟩ <;> unfold atE <;> (repeat (first | rw [if_pos (by omega)] | rw [if_neg (by omega)]))
  rcases (show a = 0 ∨ a < 0 ∨ (ws.length : Int) < a by omega) with h0 | h0 | h0
  all_goals
    have HH := Lib.hid h0
    go_enter Tryz.func93, Tryz.ntmps93
    go_wp2_with fail
    obtain ⟨W, hW⟩ : ∃ W, W = (w.alloc (Obj.cells #[.pointer (some ⟨p, 0, none⟩)] 105)).alloc (Obj.cells #[.int .u64 x] 112) := ⟨_, rfl⟩
    obtain ⟨b, hb⟩ : ∃ b, b = w.heap.size := ⟨_, rfl⟩
    rw [← hW, ← hb]
    obtain ⟨c0, f0⟩ := box1 (show W.heap[b]? = some _ by rw [hW, hb]; exact alloc2_0 w _ _)
    obtain ⟨c1, f1⟩ := box1 (show W.heap[b + 1]? = some _ by rw [hW, hb]; exact alloc2_1 w _ _)
    have hT : Touch nob w W := by rw [hW]; (repeat (first | with_reducible exact Touch.refl _ _ | with_reducible assumption | with_reducible apply Touch.alloc | with_reducible apply Touch.drewN | with_reducible apply Touch.drew | with_reducible refine Touch.setCell ?_ (.inr (by first | omega | (simp; done) | (simp; omega))) _))
    have hA := h.touch hT (fun x => x) (fun x => x)
    obtain ⟨d0, d1, d2, e0, e1, e2⟩ := box3 hA.box
    have hlp := blk_lt h.box
    have hlq := h.row.lt
    have hne := h.ne
    obtain ⟨hl1, hl⟩ := h.len
    have hbp : ¬ p = b := by omega
    have hbp1 : ¬ p = b + 1 := by omega
    have hbq : ¬ q = b := by omega
    have hbq1 : ¬ q = b + 1 := by omega
    have HX := Lib.hid (And.intro hT (And.intro hA (And.intro h (And.intro hb hW))))
    clear hT hA h hb hW
    go_wp2
    go_ret
    obtain ⟨hT, hA, h, hb, hW⟩ := HX.out
    exact ⟨by first | rw [HE.out.1 HH.out]; rfl | rw [HE.out.2.1 HH.out]; rfl | rw [HE.out.2.2 HH.out]; rfl, hT⟩

theorem arena_Len (p q cap : Nat) (ws : List Int) (lo st : Int) (w : World) (h : ArenaAt w p q cap ws lo st) :
    Calls Tryz.prog 135 #[.pointer (some ⟨p, 0, none⟩)] w fun e w' => e = .returned (.int .i64 ws.length) ∧ w = w' := by
  obtain ⟨d0, d1, d2, e0, e1, e2⟩ := box3 h.box
  obtain ⟨hl1, hl⟩ := h.len
  go_enter Tryz.func135, Tryz.ntmps135
  go_wp2
  go_ret
  exact ⟨rfl, rfl⟩
theorem made_u64 (n : Nat) : (madeCells (Value.int .u64 0).cells (n * 1)).toList = (List.replicate n (0 : Int)).map (Value.int .u64) := by
  apply List.ext_getElem?
  intro i
  simp only [madeCells, Nat.mul_one, Array.toList_map, Array.toList_range, List.getElem?_map]
  by_cases hi : i < n
  · simp [hi, Value.cells, Nat.mod_one]
  · simp [hi]

set_option maxRecDepth 20000 in
theorem arena_New_ok (n : Nat) (hn : 1 ≤ n ∧ n ≤ 1048576) (w : World) :
    Calls Tryz.prog 120 #[.int .i64 n] w fun e w' => ∃ p q, e = .returned (.tuple #[.pointer (some ⟨p, 0, none⟩), .int .i64 0]) ∧ Touch nob w w' ∧ w.heap.size ≤ p ∧ w.heap.size ≤ q ∧ ArenaAt w' p q n (List.replicate n 0) 0 0 := by
  obtain ⟨i0, hi, hz0, hz1, hz2⟩ := info_parts info_u64
  obtain ⟨h0, h1⟩ := hn
  go_enter Tryz.func120, Tryz.ntmps120
  go_wp2_with (at_make; refine wpList_make_full _ rfl _ _ 160 rfl w.heap.size 112 i0 (.int .u64 0) 1 Tryz.underlying160 hi hz0 hz1 .i64 .i64 _ _ n rfl rfl rfl rfl (by rw [hz2]; omega) (by unfold maxLen; omega) (Nat.le_refl _) ?_; intro w1 hown hgrow; have HX := Lib.hid (And.intro hown hgrow); clear hown hgrow)
  go_ret2
  obtain ⟨hown, hgrow⟩ := HX.out
  rw [made_u64] at hown
  obtain ⟨hr, _, _⟩ := RowAt.of_owns hown
  have hT : Touch nob w w1 := (Touch.refl nob w).grown hgrow (fun _ h => by cases h)
  refine ⟨w1.heap.size, w.heap.size, rfl, hT.alloc _, hgrow.size, Nat.le_refl _, ⟨(World.alloc_heap_new w1 _).trans (by rw [List.length_replicate]), hr.touch ((Touch.refl nob _).alloc _) (fun x => x), by rw [List.length_replicate]; exact ⟨h0, h1⟩⟩⟩

theorem arena_New_no (n : Int) (hn : n < 1 ∨ 1048576 < n) (w : World) :
    Calls Tryz.prog 120 #[.int .i64 n] w fun e w' => e = .returned (.tuple #[.pointer none, .int .i64 4]) ∧ w = w' := by
  rcases hn with h | h
  all_goals
    go_enter Tryz.func120, Tryz.ntmps120
    go_wp2
    go_ret2
    exact ⟨rfl, rfl⟩
end Go.Proofs.YtnobempbcdkoaaaGreatDoor
namespace Go.Proofs.YtnobempbcdkoaaaGreatDoor
open Go.RowKit

theorem ret_int {k : IntKind} {a b : Int} (h : a = b) : Ending.returned (.int k a) = .returned (.int k b) := by rw [h]
theorem ret_bool {a b : Bool} (h : a = b) : Ending.returned (.bool a) = .returned (.bool b) := by rw [h]

/-- The table of sizes reads as laid. -/
def Sizes (w : World) : Prop :=
  w.cell? ⟨2, 0, none⟩ = some (.int .i64 2) ∧ w.cell? ⟨2, 1, none⟩ = some (.int .i64 4) ∧ w.cell? ⟨2, 2, none⟩ = some (.int .i64 8) ∧ w.cell? ⟨2, 3, none⟩ = some (.int .i64 16)

def isCls (k : Int) : Bool := decide (0 ≤ k) && decide (k < 4)
theorem isCls_yes {k : Int} (h : 0 ≤ k) (h' : k < 4) : isCls k = true := by unfold isCls; simp [h, h']
theorem isCls_no {k : Int} (h : k < 0 ∨ 4 ≤ k) : isCls k = false := by unfold isCls; simp; omega
theorem isCls_iff {k : Int} : isCls k = true ↔ (0 ≤ k ∧ k < 4) := by unfold isCls; simp
theorem isCls_false {k : Int} : isCls k = false ↔ (k < 0 ∨ 4 ≤ k) := by unfold isCls; simp; omega

def clsSize (k : Int) : Int := if k = 0 then 2 else if k = 1 then 4 else if k = 2 then 8 else if k = 3 then 16 else 0
theorem clsSize_no {k : Int} (h : isCls k = false) : clsSize k = 0 := by
  rw [isCls_false] at h; unfold clsSize; repeat (first | rw [if_neg (by omega)] | rfl)
theorem clsSize_cases {k : Int} (h : isCls k = true) : (k = 0 ∧ clsSize k = 2) ∨ (k = 1 ∧ clsSize k = 4) ∨ (k = 2 ∧ clsSize k = 8) ∨ (k = 3 ∧ clsSize k = 16) := by
  rw [isCls_iff] at h
  have : k = 0 ∨ k = 1 ∨ k = 2 ∨ k = 3 := by omega
  rcases this with rfl | rfl | rfl | rfl <;> simp [clsSize]
theorem clsSize_bd (k : Int) : 0 ≤ clsSize k ∧ clsSize k ≤ 16 := by
  cases h : isCls k
  · rw [clsSize_no h]; omega
  · rcases clsSize_cases h with h | h | h | h <;> omega
theorem clsSize_lo {k : Int} (h : isCls k = true) : 2 ≤ clsSize k := by
  rcases clsSize_cases h with h | h | h | h <;> omega
def clsRoom (k : Int) : Int := if isCls k then clsSize k - 1 else 0

theorem class_Is (k : Int) (w : World) :
    Calls Tryz.prog 175 #[.int .i64 k] w fun e w' => e = .returned (.bool (isCls k)) ∧ w = w' := by
  go_enter Tryz.func175, Tryz.ntmps175
  go_wp2
  · go_ret
    exact ⟨ret_bool (by unfold isCls; simp [*]), rfl⟩
  · go_ret
    exact ⟨ret_bool (by unfold isCls; simp; omega), rfl⟩

set_option maxHeartbeats 400000 in
theorem class_Size (k : Int) (w : World) (hz : Sizes w) :
    Calls Tryz.prog 170 #[.int .i64 k] w fun e w' => e = .returned (.int .i64 (clsSize k)) ∧ w = w' := by
  obtain ⟨z0, z1, z2, z3⟩ := hz
  cases hk : isCls k
  · have hn := clsSize_no hk
    have HN := Lib.hid hn
    have HK := Lib.hid hk
    clear hn hk
    go_enter Tryz.func170, Tryz.ntmps170
    go_wp2_with (go_at_call 175; refine (class_Is k w).mono ?_; rintro e w' ⟨rfl, rfl⟩; rw [HK.out])
    go_ret
    exact ⟨ret_int HN.out.symm, rfl⟩
  · have HK := Lib.hid hk
    rcases clsSize_cases hk with ⟨rfl, hn⟩ | ⟨rfl, hn⟩ | ⟨rfl, hn⟩ | ⟨rfl, hn⟩
    all_goals
      have HN := Lib.hid hn
      clear hn hk
      go_enter Tryz.func170, Tryz.ntmps170
      go_wp2_with (go_at_call 175; refine (class_Is _ w).mono ?_; rintro e w' ⟨rfl, rfl⟩; rw [HK.out])
      go_ret
      exact ⟨ret_int HN.out.symm, rfl⟩

theorem clsRoom_eq (k : Int) : max 0 (clsSize k - 1) = clsRoom k := by
  unfold clsRoom
  cases hk : isCls k
  · rw [clsSize_no hk]; rfl
  · have := clsSize_lo hk; simp; omega

theorem class_Room (k : Int) (w : World) (hz : Sizes w) :
    Calls Tryz.prog 149 #[.int .i64 k] w fun e w' => e = .returned (.int .i64 (clsRoom k)) ∧ w = w' := by
  have hb := clsSize_bd k
  have HR := Lib.hid (clsRoom_eq k)
  have HZ := Lib.hid hz
  clear hz
  obtain ⟨h0, h1⟩ := hb
  go_enter Tryz.func149, Tryz.ntmps149
  go_wp2_with (go_at_call 170; refine (class_Size k w HZ.out).mono ?_; rintro e w' ⟨rfl, rfl⟩)
  all_goals
    go_ret
    exact ⟨ret_int (by rw [← HR.out]; omega), rfl⟩

/-- The class of so many fields; -1: there is none. -/
def clsOf (n : Int) : Int := if n < 0 then -1 else if n ≤ 1 then 0 else if n ≤ 3 then 1 else if n ≤ 7 then 2 else if n ≤ 15 then 3 else -1
theorem clsRooms : clsRoom 0 = 1 ∧ clsRoom 1 = 3 ∧ clsRoom 2 = 7 ∧ clsRoom 3 = 15 := by decide
theorem clsOf_no {n : Int} (h : n < 0 ∨ 15 < n) : clsOf n = -1 := by
  unfold clsOf
  rcases h with h | h
  · rw [if_pos h]
  · repeat (first | rw [if_neg (by omega)] | rfl)
theorem clsOf_is {n : Int} (h : 0 ≤ n) (h' : n ≤ 15) : isCls (clsOf n) = true ∧ n ≤ clsRoom (clsOf n) ∧ (0 < clsOf n → clsRoom (clsOf n - 1) < n) := by
  obtain ⟨r0, r1, r2, r3⟩ := clsRooms
  unfold clsOf
  rw [if_neg (by omega)]
  by_cases h1 : n ≤ 1
  · rw [if_pos h1]; exact ⟨by decide, by rw [r0]; exact h1, fun h => by omega⟩
  rw [if_neg h1]
  by_cases h2 : n ≤ 3
  · rw [if_pos h2]; exact ⟨by decide, by rw [r1]; exact h2, fun _ => by show clsRoom 0 < n; omega⟩
  rw [if_neg h2]
  by_cases h3 : n ≤ 7
  · rw [if_pos h3]; exact ⟨by decide, by rw [r2]; exact h3, fun _ => by show clsRoom 1 < n; omega⟩
  rw [if_neg h3, if_pos h']
  exact ⟨by decide, by rw [r3]; exact h', fun _ => by show clsRoom 2 < n; omega⟩

def ofOk (n : Int) : Bool := decide (0 ≤ n) && decide (n ≤ 15)

set_option maxHeartbeats 400000 in
theorem class_Of (n : Int) (w : World) (hz : Sizes w) :
    Calls Tryz.prog 122 #[.int .i64 n] w fun e w' => e = .returned (.tuple #[.int .i64 (max 0 (clsOf n)), .bool (ofOk n)]) ∧ w = w' := by
  have HZ := Lib.hid hz
  clear hz
  go_enter Tryz.func122, Tryz.ntmps122
  go_wp2_with fail
  go_loop [2, 3, 5] (fun a b c => ∃ k : Nat, k ≤ 4 ∧ a = .int .i64 0 ∧ b = .bool false ∧ c = .int .i64 k ∧ (n < 0 ∨ ∀ j : Nat, j < k → clsRoom j < n)) (fun _ _ c => 4 - (intOf c).toNat)
  case atStart => exact ⟨0, by omega, rfl, rfl, rfl, .inr (fun _ h => by omega)⟩
  case round =>
    obtain ⟨k, hk, rfl, rfl, rfl, hall⟩ := hrel
    by_cases hlt : k < 4
    · have hr0 : 1 ≤ clsRoom k := by
        obtain ⟨r0, r1, r2, r3⟩ := clsRooms
        have : k = 0 ∨ k = 1 ∨ k = 2 ∨ k = 3 := by omega
        rcases this with rfl | rfl | rfl | rfl <;> simp_all
      by_cases h0 : 0 ≤ n
      · by_cases hn : n ≤ clsRoom k
        · have HF : Hid (Ending.returned (.tuple #[.int .i64 (k : Int), .bool true]) = .returned (.tuple #[.int .i64 (max 0 (clsOf n)), .bool (ofOk n)])) := by
            obtain ⟨r0, r1, r2, r3⟩ := clsRooms
            have ho : ofOk n = true := by
              unfold ofOk
              have : k = 0 ∨ k = 1 ∨ k = 2 ∨ k = 3 := by omega
              rcases this with rfl | rfl | rfl | rfl <;> simp_all <;> omega
            have hk : max 0 (clsOf n) = k := by
              rcases hall with hall | hall
              · omega
              have g0 := hall 0; have g1 := hall 1; have g2 := hall 2
              unfold clsOf
              have : k = 0 ∨ k = 1 ∨ k = 2 ∨ k = 3 := by omega
              rcases this with rfl | rfl | rfl | rfl <;> simp_all <;> (repeat (first | rw [if_neg (by omega)] | rw [if_pos (by omega)])) <;> rfl
            rw [ho, hk]; exact rfl
          clear hall
          go_wp2_with (go_at_call 149; refine (class_Room _ w HZ.out).mono ?_; rintro e w' ⟨rfl, rfl⟩)
          go_ret2
          exact ⟨HF.out, rfl⟩
        · have hn' : clsRoom k < n := by omega
          have HA : Hid (∀ j : Nat, j < k + 1 → clsRoom j < n) := by
            intro j hj
            rcases hall with hall | hall
            · omega
            by_cases e : j = k
            · rw [e]; exact hn'
            · exact hall j (by omega)
          clear hall
          go_wp2_with (go_at_call 149; refine (class_Room _ w HZ.out).mono ?_; rintro e w' ⟨rfl, rfl⟩)
          go_round
          case rel => exact ⟨k + 1, by omega, rfl, rfl, by go_num, .inr HA.out⟩
          case measure => simp [intOf]; omega
      · have h0' : n < 0 := by omega
        clear hall
        go_wp2_with fail
        go_round
        case rel => exact ⟨k + 1, by omega, rfl, rfl, by go_num, .inl h0'⟩
        case measure => simp [intOf]; omega
    · obtain rfl : k = 4 := by omega
      have HF : Hid (Ending.returned (.tuple #[.int .i64 0, .bool false]) = .returned (.tuple #[.int .i64 (max 0 (clsOf n)), .bool (ofOk n)])) := by
        have hn : n < 0 ∨ 15 < n := by
          rcases hall with hall | hall
          · exact .inl hall
          · have := hall 3 (by omega); rw [show clsRoom ((3 : Nat) : Int) = 15 from clsRooms.2.2.2] at this; omega
        rw [clsOf_no hn, show ofOk n = false by unfold ofOk; simp; omega]; exact rfl
      clear hall
      go_wp2_with fail
      go_ret2
      exact ⟨HF.out, rfl⟩

def wordsOk (w : Int) : Bool := decide (16 ≤ w) && decide (w ≤ 256)
/-- How many slots a block has. -/
def perBlock (w k : Int) : Int := if isCls k && wordsOk w then w / clsSize k else 0

set_option maxHeartbeats 400000 in
theorem class_PerBlock (x k : Int) (w : World) (hz : Sizes w) :
    Calls Tryz.prog 178 #[.int .i64 x, .int .i64 k] w fun e w' => e = .returned (.int .i64 (perBlock x k)) ∧ w = w' := by
  obtain ⟨z0, z1, z2, z3⟩ := hz
  cases hk : isCls k
  · have HN : Hid (perBlock x k = 0) := by unfold perBlock; rw [hk]; exact rfl
    have HK := Lib.hid hk
    clear hk
    go_enter Tryz.func178, Tryz.ntmps178
    go_wp2_with (go_at_call 175; refine (class_Is k w).mono ?_; rintro e w' ⟨rfl, rfl⟩; rw [HK.out])
    go_ret
    exact ⟨ret_int HN.out.symm, rfl⟩
  · have HK := Lib.hid hk
    by_cases hx : 16 ≤ x
    · by_cases hx' : x ≤ 256
      · rcases clsSize_cases hk with ⟨rfl, hn⟩ | ⟨rfl, hn⟩ | ⟨rfl, hn⟩ | ⟨rfl, hn⟩
        all_goals
          have HN := Lib.hid (show perBlock x _ = _ from by unfold perBlock; rw [hk, show wordsOk x = true by unfold wordsOk; simp; omega, hn]; first | done | exact rfl)
          clear hn hk
          go_enter Tryz.func178, Tryz.ntmps178
          go_wp2_with (go_at_call 175; refine (class_Is _ w).mono ?_; rintro e w' ⟨rfl, rfl⟩; rw [HK.out])
          go_ret
          exact ⟨ret_int HN.out.symm, rfl⟩
      · have HN := Lib.hid (show perBlock x k = 0 by unfold perBlock; rw [show wordsOk x = false by unfold wordsOk; simp; omega]; simp)
        clear hk
        go_enter Tryz.func178, Tryz.ntmps178
        go_wp2_with (go_at_call 175; refine (class_Is k w).mono ?_; rintro e w' ⟨rfl, rfl⟩; rw [HK.out])
        go_ret
        exact ⟨ret_int HN.out.symm, rfl⟩
    · have HN := Lib.hid (show perBlock x k = 0 by unfold perBlock; rw [show wordsOk x = false by unfold wordsOk; simp; omega]; simp)
      clear hk
      go_enter Tryz.func178, Tryz.ntmps178
      go_wp2_with (go_at_call 175; refine (class_Is k w).mono ?_; rintro e w' ⟨rfl, rfl⟩; rw [HK.out])
      go_ret
      exact ⟨ret_int HN.out.symm, rfl⟩
end Go.Proofs.YtnobempbcdkoaaaGreatDoor
namespace Go.Proofs.YtnobempbcdkoaaaGreatDoor
open Go.RowKit

theorem ref03_Is (k : Int) (w : World) :
    Calls Tryz.prog 156 #[.int .i64 k] w fun e w' => e = .returned (.bool (isCls k)) ∧ w = w' := by
  go_enter Tryz.func156, Tryz.ntmps156
  go_wp2
  · go_ret
    exact ⟨ret_bool (by unfold isCls; simp [*]; omega), rfl⟩
  · go_ret
    exact ⟨ret_bool (by unfold isCls; simp; omega), rfl⟩

set_option maxHeartbeats 400000 in
theorem ref03_Size (k : Int) (w : World) :
    Calls Tryz.prog 155 #[.int .i64 k] w fun e w' => e = .returned (.int .i64 (clsSize k)) ∧ w = w' := by
  cases hk : isCls k
  · have HN := Lib.hid (clsSize_no hk)
    have HK := Lib.hid hk
    clear hk
    go_enter Tryz.func155, Tryz.ntmps155
    go_wp2_with (go_at_call 156; refine (ref03_Is k w).mono ?_; rintro e w' ⟨rfl, rfl⟩; rw [HK.out])
    go_ret
    exact ⟨ret_int HN.out.symm, rfl⟩
  · have HK := Lib.hid hk
    obtain ⟨n, rfl⟩ := Int.eq_ofNat_of_zero_le (isCls_iff.1 hk).1
    have hn4 : n < 4 := by have := (isCls_iff.1 hk).2; omega
    have HN : Hid (clsSize n = ((2 ^ (n + 1) : Nat) : Int)) := by
      have : n = 0 ∨ n = 1 ∨ n = 2 ∨ n = 3 := by omega
      rcases this with rfl | rfl | rfl | rfl <;> rfl
    clear hk
    go_enter Tryz.func155, Tryz.ntmps155
    go_wp2_with (go_at_call 156; refine (ref03_Is _ w).mono ?_; rintro e w' ⟨rfl, rfl⟩; rw [HK.out])
    go_loop [3, 4] (fun a b => ∃ i m : Nat, i ≤ n ∧ a = .int .i64 m ∧ b = .int .i64 i ∧ m ≤ 16 ∧ Hid (m = 2 ^ (i + 1))) (fun _ b => n - (intOf b).toNat)
    case atStart => exact ⟨0, 2, by omega, rfl, rfl, by omega, rfl⟩
    case round =>
      obtain ⟨i, m, hi, rfl, rfl, hm, HM⟩ := hrel
      by_cases hlt : i < n
      · go_wp2_with fail
        go_round
        case rel =>
          have h2 : 2 * m = 2 ^ (i + 1 + 1) := by have := HM.out; rw [Nat.pow_succ]; omega
          refine ⟨i + 1, 2 * m, by omega, by go_num, by go_num, ?_, h2⟩
          rw [h2]
          have : i = 0 ∨ i = 1 ∨ i = 2 := by omega
          rcases this with rfl | rfl | rfl <;> decide
        case measure => simp [intOf]; omega
      · obtain rfl : i = n := by omega
        go_wp2_with fail
        go_ret
        exact ⟨ret_int (by rw [HN.out, HM.out]), rfl⟩

set_option maxHeartbeats 400000 in
theorem ref03_Of (n : Int) (w : World) :
    Calls Tryz.prog 126 #[.int .i64 n] w fun e w' => e = .returned (.int .i64 (clsOf n)) ∧ w = w' := by
  by_cases h0 : n < 0
  · have HN := Lib.hid (clsOf_no (n := n) (.inl h0))
    go_enter Tryz.func126, Tryz.ntmps126
    go_wp2_with fail
    go_ret
    exact ⟨ret_int HN.out.symm, rfl⟩
  by_cases h15 : 15 < n
  · have HN := Lib.hid (clsOf_no (n := n) (.inr h15))
    go_enter Tryz.func126, Tryz.ntmps126
    go_wp2_with fail
    go_ret
    exact ⟨ret_int HN.out.symm, rfl⟩
  have hc := clsOf_is (n := n) (by omega) (by omega)
  obtain ⟨m, hm⟩ := Int.eq_ofNat_of_zero_le (isCls_iff.1 hc.1).1
  have hm4 : m < 4 := by have := (isCls_iff.1 hc.1).2; omega
  rw [hm] at hc ⊢
  obtain ⟨hc1, hc2, hc3⟩ := hc
  have HC1 : Hid (∀ i : Nat, i < m → clsSize i < n + 1 ∧ 0 ≤ clsSize i) := by
    intro i hi
    have : i = 0 ∨ i = 1 ∨ i = 2 := by omega
    have h3 := hc3 (by omega)
    obtain ⟨r0, r1, r2, r3⟩ := clsRooms
    have hm' : m = 1 ∨ m = 2 ∨ m = 3 := by omega
    have s0 : clsSize 0 = 2 := rfl
    have s1 : clsSize 1 = 4 := rfl
    have s2 : clsSize 2 = 8 := rfl
    rcases hm' with rfl | rfl | rfl <;> rcases this with rfl | rfl | rfl <;> simp_all <;> omega
  have HC2 : Hid (n + 1 ≤ clsSize m ∧ clsSize m ≤ 16) := by
    have := clsSize_bd m
    have := clsSize_lo hc1
    unfold clsRoom at hc2
    rw [if_pos hc1] at hc2
    exact ⟨by omega, by omega⟩
  clear hm hc1 hc2 hc3
  go_enter Tryz.func126, Tryz.ntmps126
  go_wp2_with fail
  go_loop [3] (fun a => ∃ i : Nat, i ≤ m ∧ a = .int .i64 i) (fun a => m - (intOf a).toNat)
  case atStart => exact ⟨0, by omega, rfl⟩
  case round =>
    obtain ⟨i, hi, rfl⟩ := hrel
    by_cases hlt : i < m
    · obtain ⟨g1, g2⟩ := HC1.out i hlt
      go_wp2_with (go_at_call 155; refine (ref03_Size _ w).mono ?_; rintro e w' ⟨rfl, rfl⟩)
      go_round
      case rel => exact ⟨i + 1, by omega, by go_num⟩
      case measure => simp [intOf]; omega
    · obtain rfl : i = m := by omega
      obtain ⟨g1, g2⟩ := HC2.out
      go_wp2_with (go_at_call 155; refine (ref03_Size _ w).mono ?_; rintro e w' ⟨rfl, rfl⟩)
      go_ret
      exact ⟨rfl, rfl⟩

theorem per_bd (x s : Int) (hx : 16 ≤ x) (hx' : x ≤ 256) (hs : 2 ≤ s) (hs' : s ≤ 16) : 0 ≤ x / s ∧ x / s ≤ 128 ∧ s * (x / s) ≤ x ∧ x < s * (x / s) + s := by
  have h1 := Int.mul_ediv_add_emod x s
  have h2 := Int.emod_nonneg x (show s ≠ 0 by omega)
  have h3 := Int.emod_lt_of_pos x (show 0 < s by omega)
  have h4 : 0 ≤ x / s := Int.ediv_nonneg (by omega) (by omega)
  refine ⟨h4, ?_, by omega, by omega⟩
  have : 2 * (x / s) ≤ s * (x / s) := Int.mul_le_mul_of_nonneg_right hs h4
  omega

set_option maxHeartbeats 400000 in
theorem ref03_Per (x k : Int) (w : World) :
    Calls Tryz.prog 157 #[.int .i64 x, .int .i64 k] w fun e w' => e = .returned (.int .i64 (perBlock x k)) ∧ w = w' := by
  cases hk : isCls k
  · have HN : Hid (perBlock x k = 0) := by unfold perBlock; rw [hk]; exact rfl
    have HK := Lib.hid hk
    clear hk
    go_enter Tryz.func157, Tryz.ntmps157
    go_wp2_with (go_at_call 156; refine (ref03_Is k w).mono ?_; rintro e w' ⟨rfl, rfl⟩; rw [HK.out])
    go_ret
    exact ⟨ret_int HN.out.symm, rfl⟩
  · have HK := Lib.hid hk
    by_cases hx : 16 ≤ x ∧ x ≤ 256
    · obtain ⟨hx, hx'⟩ := hx
      have hs := clsSize_lo hk
      have hs' := (clsSize_bd k).2
      have hp := per_bd x (clsSize k) hx hx' hs hs'
      have hpb : perBlock x k = x / clsSize k := by unfold perBlock; rw [hk, show wordsOk x = true by unfold wordsOk; simp; omega]; rfl
      rw [← hpb] at hp
      obtain ⟨m, hm⟩ := Int.eq_ofNat_of_zero_le hp.1
      rw [hm] at hp ⊢
      obtain ⟨p0, p1, p2, p3⟩ := hp
      have HS : Hid (∃ s, clsSize k = s) := ⟨_, rfl⟩
      have HI : Hid (∀ i : Nat, (i < m → (↑i + 1) * clsSize k ≤ x) ∧ (i ≤ m → 0 ≤ (↑i + 1) * clsSize k ∧ (↑i + 1) * clsSize k ≤ 3000)) := by
        intro i
        refine ⟨fun h => ?_, fun h => ?_⟩
        · have : ((i : Int) + 1) * clsSize k ≤ m * clsSize k := Int.mul_le_mul_of_nonneg_right (by omega) (by omega)
          rw [Int.mul_comm (m : Int)] at this; omega
        · have a1 : (0 : Int) ≤ ((i : Int) + 1) * clsSize k := Int.mul_nonneg (by omega) (by omega)
          have a2 : ((i : Int) + 1) * clsSize k ≤ (129 : Int) * clsSize k := Int.mul_le_mul_of_nonneg_right (by omega) (by omega)
          omega
      have HE : Hid (x < (↑m + 1) * clsSize k) := by
        show x < ((m : Int) + 1) * clsSize k
        rw [Int.mul_comm, Int.mul_add]; omega
      clear hk hpb hm p2 p3
      go_enter Tryz.func157, Tryz.ntmps157
      go_wp2_with (go_at_call 156; refine (ref03_Is k w).mono ?_; rintro e w' ⟨rfl, rfl⟩; rw [HK.out])
      go_loop [5] (fun a => ∃ i : Nat, i ≤ m ∧ a = .int .i64 i) (fun a => m - (intOf a).toNat)
      case atStart => exact ⟨0, by omega, rfl⟩
      case round =>
        obtain ⟨i, hi, rfl⟩ := hrel
        obtain ⟨g3, g4⟩ := (HI.out i).2 hi
        by_cases hlt : i < m
        · have g2 := (HI.out i).1 hlt
          go_wp2_with (go_at_call 155; refine (ref03_Size _ w).mono ?_; rintro e w' ⟨rfl, rfl⟩)
          go_round
          case rel => exact ⟨i + 1, by omega, by go_num⟩
          case measure => simp [intOf]; omega
        · obtain rfl : i = m := by omega
          have g2 : x < (↑i + 1) * clsSize k := HE.out
          go_wp2_with (go_at_call 155; refine (ref03_Size _ w).mono ?_; rintro e w' ⟨rfl, rfl⟩)
          go_ret
          exact ⟨rfl, rfl⟩
    · have HN := Lib.hid (show perBlock x k = 0 by unfold perBlock; rw [show wordsOk x = false by unfold wordsOk; simp; omega]; simp)
      clear hk
      by_cases hx1 : 16 ≤ x
      · have hx2 : 256 < x := by omega
        clear hx
        go_enter Tryz.func157, Tryz.ntmps157
        go_wp2_with (go_at_call 156; refine (ref03_Is k w).mono ?_; rintro e w' ⟨rfl, rfl⟩; rw [HK.out])
        go_ret
        exact ⟨ret_int HN.out.symm, rfl⟩
      · clear hx
        go_enter Tryz.func157, Tryz.ntmps157
        go_wp2_with (go_at_call 156; refine (ref03_Is k w).mono ?_; rintro e w' ⟨rfl, rfl⟩; rw [HK.out])
        go_ret
        exact ⟨ret_int HN.out.symm, rfl⟩
end Go.Proofs.YtnobempbcdkoaaaGreatDoor
namespace Go.Proofs.YtnobempbcdkoaaaGreatDoor
open Go.RowKit

theorem bv_u64 (a : Nat) (ha : a < 18446744073709551616) : (BitVec.ofInt 64 (a : Int)).toNat = a := by
  rw [BitVec.ofInt_natCast, BitVec.toNat_ofNat]; exact Nat.mod_eq_of_lt (by omega)
theorem bits_and_u64_nat (a b : Nat) (ha : a < 18446744073709551616) (hb : b < 18446744073709551616) : bits .and .u64 (a : Int) (b : Int) = ((a &&& b : Nat) : Int) := by
  have hx : a &&& b < 2 ^ 64 := Nat.and_lt_two_pow _ (by omega)
  show IntKind.u64.wrap ((BitVec.ofInt 64 (a : Int) &&& BitVec.ofInt 64 (b : Int)).toNat : Int) = _
  rw [BitVec.toNat_and, bv_u64 a ha, bv_u64 b hb, IntKind.wrap_u64]
  omega
theorem bits_or_u64_nat (a b : Nat) (ha : a < 18446744073709551616) (hb : b < 18446744073709551616) : bits .or .u64 (a : Int) (b : Int) = ((a ||| b : Nat) : Int) := by
  have hx : a ||| b < 2 ^ 64 := Nat.or_lt_two_pow (by omega) (by omega)
  show IntKind.u64.wrap ((BitVec.ofInt 64 (a : Int) ||| BitVec.ofInt 64 (b : Int)).toNat : Int) = _
  rw [BitVec.toNat_or, bv_u64 a ha, bv_u64 b hb, IntKind.wrap_u64]
  omega
/-- A mask of the lowest n bits. -/
theorem and_mask (n : Nat) (hn : n ≤ 63) (m : Int) (hm : m = ((2 ^ n - 1 : Nat) : Int)) (x : Int) (h0 : 0 ≤ x) (h1 : x < 18446744073709551616) : bits .and .u64 x m = x % ((2 ^ n : Nat) : Int) := by
  obtain ⟨a, rfl⟩ := Int.eq_ofNat_of_zero_le h0
  subst hm
  have hp : 2 ^ n ≤ 2 ^ 63 := Nat.pow_le_pow_right (by omega) hn
  rw [bits_and_u64_nat a _ (by omega) (by omega), Nat.and_two_pow_sub_one_eq_mod]
  simp
/-- Two parts that do not meet. -/
theorem or_parts (n : Nat) (a b : Int) (ha : 0 ≤ a) (hb : 0 ≤ b) (hb' : b < ((2 ^ n : Nat) : Int)) (hs : a * ((2 ^ n : Nat) : Int) + b < 18446744073709551616) :
    bits .or .u64 (a * ((2 ^ n : Nat) : Int)) b = a * ((2 ^ n : Nat) : Int) + b := by
  obtain ⟨x, rfl⟩ := Int.eq_ofNat_of_zero_le ha
  obtain ⟨y, rfl⟩ := Int.eq_ofNat_of_zero_le hb
  have e : ((x : Int) * ((2 ^ n : Nat) : Int)) = ((x * 2 ^ n : Nat) : Int) := by simp
  rw [e] at hs ⊢
  have hb2 : y < 2 ^ n := by exact_mod_cast hb'
  rw [bits_or_u64_nat _ _ (by omega) (by omega)]
  have := Nat.shiftLeft_add_eq_or_of_lt hb2 x
  rw [Nat.shiftLeft_eq] at this
  rw [← this]
  simp

theorem mask8 (x : Int) (h0 : 0 ≤ x) (h1 : x < 18446744073709551616) : bits .and .u64 x 255 = x % 256 := and_mask 8 (by omega) 255 (by decide) x h0 h1
theorem mask56 (x : Int) (h0 : 0 ≤ x) (h1 : x < 18446744073709551616) : bits .and .u64 x 72057594037927935 = x % 72057594037927936 := and_mask 56 (by omega) 72057594037927935 (by decide) x h0 h1
theorem or8 (a b : Int) (ha : 0 ≤ a) (ha' : a < 256) (hb : 0 ≤ b) (hb' : b < 256) : bits .or .u64 (a * 256) b = a * 256 + b := or_parts 8 a b ha hb (by simpa using hb') (by simp; omega)
theorem or56 (a b : Int) (ha : 0 ≤ a) (ha' : a < 256) (hb : 0 ≤ b) (hb' : b < 72057594037927936) : bits .or .u64 (a * 72057594037927936) b = a * 72057594037927936 + b := or_parts 56 a b ha hb (by simpa using hb') (by simp; omega)
end Go.Proofs.YtnobempbcdkoaaaGreatDoor
namespace Go.Proofs.YtnobempbcdkoaaaGreatDoor
open Go.RowKit

def laidI (k r : Int) : Int := k * 72057594037927936 + r
def hObj (c n : Int) : Int := laidI 1 (c * 256 + n)
def hLink (a : Int) : Int := laidI 2 a
def objOk (c n : Int) : Bool := isCls c && (decide (0 ≤ n) && decide (n ≤ clsRoom c))
def linkOk (a : Int) : Bool := decide (0 ≤ a) && decide (a ≤ 1048576)
theorem objOk_iff {c n : Int} : objOk c n = true ↔ isCls c = true ∧ 0 ≤ n ∧ n ≤ clsRoom c := by unfold objOk; simp
theorem linkOk_iff {a : Int} : linkOk a = true ↔ 0 ≤ a ∧ a ≤ 1048576 := by unfold linkOk; simp
theorem clsRoom_bd (c : Int) : 0 ≤ clsRoom c ∧ clsRoom c ≤ 15 := by
  have := clsSize_bd c
  unfold clsRoom
  split
  · rename_i h; have := clsSize_lo h; omega
  · omega

theorem header_laid (k r : Int) (hk : 0 ≤ k) (hk' : k < 256) (hr : 0 ≤ r) (hr' : Hid (r < 72057594037927936)) (w : World) :
    Calls Tryz.prog 176 #[.int .i64 k, .int .u64 r] w fun e w' => e = .returned (.int .u64 (laidI k r)) ∧ w = w' := by
  have HO := Lib.hid (or56 k r hk hk' hr hr'.out)
  have hw : IntKind.u64.wrap k = k := by rw [IntKind.wrap_u64]; omega
  have HW : Hid (IntKind.u64.wrap (k * 72057594037927936) = k * 72057594037927936) := by show IntKind.u64.wrap _ = _; rw [IntKind.wrap_u64]; omega
  go_enter Tryz.func176, Tryz.ntmps176
  go_wp2
  go_ret
  exact ⟨ret_int (by first | exact HO.out | (rw [HW.out]; exact HO.out)), rfl⟩

theorem header_parts (x : Int) (h0 : 0 ≤ x) (h1 : Hid (x < 18446744073709551616)) (w : World) :
    Calls Tryz.prog 166 #[.int .u64 x] w fun e w' => e = .returned (.tuple #[.int .i64 (x / 256 % 256), .int .i64 (x % 256)]) ∧ w = w' := by
  have hm0 : bits .and .u64 x 255 = x % 256 := mask8 x h0 h1.out
  have hm1 : bits .and .u64 (x / 256) 255 = x / 256 % 256 := mask8 (x / 256) (by omega) (by have := h1.out; omega)
  have a0 : 0 ≤ x % 256 := by omega
  have a1 : x % 256 < 256 := by omega
  have b0 : 0 ≤ x / 256 % 256 := by omega
  have b1 : x / 256 % 256 < 256 := by omega
  go_enter Tryz.func166, Tryz.ntmps166
  go_wp2
  go_ret2
  exact ⟨rfl, rfl⟩

theorem header_address (x : Int) (h0 : 0 ≤ x) (h1 : Hid (x < 18446744073709551616)) (w : World) :
    Calls Tryz.prog 179 #[.int .u64 x] w fun e w' => e = .returned (.int .i64 (x % 72057594037927936)) ∧ w = w' := by
  have HM := Lib.hid (mask56 x h0 h1.out)
  have HW : Hid (wrap64 (x % 72057594037927936) = x % 72057594037927936) := by show wrap64 _ = _; exact IntWalk.wrap64_in _ ⟨by omega, by omega⟩
  go_enter Tryz.func179, Tryz.ntmps179
  go_wp2
  go_ret
  exact ⟨ret_int (by rw [HM.out, HW.out]), rfl⟩

set_option maxHeartbeats 400000 in
theorem header_Object (c n : Int) (w : World) (hS : Sizes w) :
    Calls Tryz.prog 154 #[.int .i64 c, .int .i64 n] w fun e w' => e = .returned (.tuple #[.int .u64 (match objOk c n with | true => hObj c n | false => 0), .bool (objOk c n)]) ∧ w = w' := by
  have HZ := Lib.hid hS
  clear hS
  cases hk : objOk c n
  · cases hc : isCls c
    · have HC := Lib.hid hc
      clear hk hc
      go_enter Tryz.func154, Tryz.ntmps154
      go_wp2_with (go_at_call 175; refine (class_Is _ _).mono ?_; rintro e w' ⟨rfl, rfl⟩; rw [HC.out])
      go_ret2
      exact ⟨rfl, rfl⟩
    · have HC := Lib.hid hc
      by_cases h0 : n < 0
      · clear hk hc
        go_enter Tryz.func154, Tryz.ntmps154
        go_wp2_with (go_at_call 175; refine (class_Is _ _).mono ?_; rintro e w' ⟨rfl, rfl⟩; rw [HC.out])
        go_ret2
        exact ⟨rfl, rfl⟩
      · have h1 : clsRoom c < n := by
          unfold objOk at hk; rw [hc] at hk; simp at hk; omega
        clear hk hc
        go_enter Tryz.func154, Tryz.ntmps154
        go_wp2_with (first | (go_at_call 175; refine (class_Is _ _).mono ?_; rintro e w' ⟨rfl, rfl⟩; rw [HC.out]) | (go_at_call 149; refine (class_Room _ _ HZ.out).mono ?_; rintro e w' ⟨rfl, rfl⟩))
        go_ret2
        exact ⟨rfl, rfl⟩
  · obtain ⟨hc, h0, h1⟩ := objOk_iff.1 hk
    have HC := Lib.hid hc
    have hr := (clsRoom_bd c).2
    obtain ⟨c0, c1⟩ := isCls_iff.1 hc
    clear hk hc
    have hw : IntKind.u64.wrap c = c := by rw [IntKind.wrap_u64]; omega
    have hw2 : IntKind.u64.wrap (c * 256) = c * 256 := by rw [IntKind.wrap_u64]; omega
    have hw3 : IntKind.u64.wrap n = n := by rw [IntKind.wrap_u64]; omega
    have ho := or8 c n c0 (by omega) h0 (by omega)
    have HB : Hid (c * 256 + n < 72057594037927936) := by show c * 256 + n < _; omega
    go_enter Tryz.func154, Tryz.ntmps154
    go_wp2_with (first | (go_at_call 175; refine (class_Is _ _).mono ?_; rintro e w' ⟨rfl, rfl⟩; rw [HC.out]) | (go_at_call 149; refine (class_Room _ _ HZ.out).mono ?_; rintro e w' ⟨rfl, rfl⟩) | (go_at_call 176; refine (header_laid 1 (c * 256 + n) (by omega) (by omega) (by omega) HB _).mono ?_; rintro e w' ⟨rfl, rfl⟩))
    go_ret2
    exact ⟨rfl, rfl⟩

set_option maxHeartbeats 400000 in
theorem header_Link (a : Int) (w : World) :
    Calls Tryz.prog 161 #[.int .i64 a] w fun e w' => e = .returned (.tuple #[.int .u64 (match linkOk a with | true => hLink a | false => 0), .bool (linkOk a)]) ∧ w = w' := by
  cases hk : linkOk a
  · by_cases h0 : a < 0
    · clear hk
      go_enter Tryz.func161, Tryz.ntmps161
      go_wp2_with fail
      go_ret2
      exact ⟨rfl, rfl⟩
    · have h1 : 1048576 < a := by unfold linkOk at hk; simp at hk; omega
      clear hk
      go_enter Tryz.func161, Tryz.ntmps161
      go_wp2_with fail
      go_ret2
      exact ⟨rfl, rfl⟩
  · obtain ⟨h0, h1⟩ := linkOk_iff.1 hk
    clear hk
    have hw : IntKind.u64.wrap a = a := by rw [IntKind.wrap_u64]; omega
    have HB : Hid (a < 72057594037927936) := by show a < _; omega
    go_enter Tryz.func161, Tryz.ntmps161
    go_wp2_with (go_at_call 176; refine (header_laid 2 a (by omega) (by omega) (by omega) HB _).mono ?_; rintro e w' ⟨rfl, rfl⟩)
    go_ret2
    exact ⟨rfl, rfl⟩

/-- Is a word an object's header? A link's? -/
def isObjW (x : Int) : Bool := decide (x / 72057594037927936 = 1) && (objOk (x / 256 % 256) (x % 256) && (hObj (x / 256 % 256) (x % 256) == x))
def isLinkW (x : Int) : Bool := decide (x / 72057594037927936 = 2) && linkOk (x % 72057594037927936)
def kindW (x : Int) : Int := if isObjW x then 1 else if isLinkW x then 2 else 0

set_option maxHeartbeats 800000 in
theorem header_Kind (x : Int) (h0 : 0 ≤ x) (h1 : Hid (x < 18446744073709551616)) (w : World) (hS : Sizes w) :
    Calls Tryz.prog 165 #[.int .u64 x] w fun e w' => e = .returned (.int .i64 (kindW x)) ∧ w = w' := by
  have HZ := Lib.hid hS
  clear hS
  obtain ⟨k, hk⟩ : ∃ k, x / 72057594037927936 = k := ⟨_, rfl⟩
  have k0 : 0 ≤ k := by omega
  have k1 : k < 256 := by have := h1.out; omega
  have HL2 : Hid (linkOk (x % 72057594037927936) = true → (hLink (x % 72057594037927936) == x) = decide (k = 2)) := by
    intro _
    show (hLink (x % 72057594037927936) == x) = decide (k = 2)
    unfold hLink laidI
    rw [Bool.eq_iff_iff]; simp; omega
  have HA := Lib.hid (fun w => header_address x h0 h1 w)
  have HP := Lib.hid (fun w => header_parts x h0 h1 w)
  by_cases c1 : k = 1
  · subst c1
    have HNL : Hid (isLinkW x = false) := by show isLinkW x = false; unfold isLinkW; rw [hk]; simp
    have HIO : Hid (isObjW x = (objOk (x / 256 % 256) (x % 256) && (hObj (x / 256 % 256) (x % 256) == x))) := by show isObjW x = _; unfold isObjW; rw [hk]; simp
    cases ho : objOk (x / 256 % 256) (x % 256)
    · have HR : Hid (kindW x = 0) := by show kindW x = 0; unfold kindW; rw [HIO.out, ho, HNL.out]; rfl
      have HO := Lib.hid ho
      clear ho
      cases hl : linkOk (x % 72057594037927936)
      all_goals
        have HLK := Lib.hid hl
        have HL3 := Lib.hid (fun h => (HL2.out h).trans (show decide ((1 : Int) = 2) = false by decide))
        clear hl
        go_enter Tryz.func165, Tryz.ntmps165
        go_wp2_with (first | (go_at_call 166; refine (HP.out _).mono ?_; rintro e w' ⟨rfl, rfl⟩) | (go_at_call 179; refine (HA.out _).mono ?_; rintro e w' ⟨rfl, rfl⟩) | (go_at_call 154; refine (header_Object _ _ _ HZ.out).mono ?_; rintro e w' ⟨rfl, rfl⟩; rw [HO.out]) | (go_at_call 161; refine (header_Link _ _).mono ?_; rintro e w' ⟨rfl, rfl⟩; rw [HLK.out]; try have hL4 := HL3.out HLK.out))
        go_ret
        exact ⟨ret_int HR.out.symm, rfl⟩
    · cases he : (hObj (x / 256 % 256) (x % 256) == x)
      · have HR : Hid (kindW x = 0) := by show kindW x = 0; unfold kindW; rw [HIO.out, ho, he, HNL.out]; rfl
        have HO := Lib.hid ho
        clear ho
        cases hl : linkOk (x % 72057594037927936)
        all_goals
          have HLK := Lib.hid hl
          have HL3 := Lib.hid (fun h => (HL2.out h).trans (show decide ((1 : Int) = 2) = false by decide))
          clear hl
          go_enter Tryz.func165, Tryz.ntmps165
          go_wp2_with (first | (go_at_call 166; refine (HP.out _).mono ?_; rintro e w' ⟨rfl, rfl⟩) | (go_at_call 179; refine (HA.out _).mono ?_; rintro e w' ⟨rfl, rfl⟩) | (go_at_call 154; refine (header_Object _ _ _ HZ.out).mono ?_; rintro e w' ⟨rfl, rfl⟩; rw [HO.out]) | (go_at_call 161; refine (header_Link _ _).mono ?_; rintro e w' ⟨rfl, rfl⟩; rw [HLK.out]; try have hL4 := HL3.out HLK.out))
          go_ret
          exact ⟨ret_int HR.out.symm, rfl⟩
      · have HR : Hid (kindW x = 1) := by show kindW x = 1; unfold kindW; rw [HIO.out, ho, he]; rfl
        have HO := Lib.hid ho
        clear ho
        go_enter Tryz.func165, Tryz.ntmps165
        go_wp2_with (first | (go_at_call 166; refine (HP.out _).mono ?_; rintro e w' ⟨rfl, rfl⟩) | (go_at_call 179; refine (HA.out _).mono ?_; rintro e w' ⟨rfl, rfl⟩) | (go_at_call 154; refine (header_Object _ _ _ HZ.out).mono ?_; rintro e w' ⟨rfl, rfl⟩; rw [HO.out]))
        go_ret
        exact ⟨ret_int HR.out.symm, rfl⟩
  by_cases c2 : k = 2
  · subst c2
    have HNO : Hid (isObjW x = false) := by show isObjW x = false; unfold isObjW; rw [hk]; simp
    have HIL : Hid (isLinkW x = linkOk (x % 72057594037927936)) := by show isLinkW x = _; unfold isLinkW; rw [hk]; simp
    cases hl : linkOk (x % 72057594037927936)
    · have HR : Hid (kindW x = 0) := by show kindW x = 0; unfold kindW; rw [HNO.out, HIL.out, hl]; rfl
      have HLK := Lib.hid hl
      clear hl
      go_enter Tryz.func165, Tryz.ntmps165
      go_wp2_with (first | (go_at_call 179; refine (HA.out _).mono ?_; rintro e w' ⟨rfl, rfl⟩) | (go_at_call 161; refine (header_Link _ _).mono ?_; rintro e w' ⟨rfl, rfl⟩; rw [HLK.out]))
      go_ret
      exact ⟨ret_int HR.out.symm, rfl⟩
    · have HR : Hid (kindW x = 2) := by show kindW x = 2; unfold kindW; rw [HNO.out, HIL.out, hl]; rfl
      have hL4 := (HL2.out hl).trans (show decide ((2 : Int) = 2) = true by decide)
      have HLK := Lib.hid hl
      clear hl
      go_enter Tryz.func165, Tryz.ntmps165
      go_wp2_with (first | (go_at_call 179; refine (HA.out _).mono ?_; rintro e w' ⟨rfl, rfl⟩) | (go_at_call 161; refine (header_Link _ _).mono ?_; rintro e w' ⟨rfl, rfl⟩; rw [HLK.out]))
      go_ret
      exact ⟨ret_int HR.out.symm, rfl⟩
  have HR : Hid (kindW x = 0) := by
    show kindW x = 0
    unfold kindW
    rw [if_neg (by unfold isObjW; simp; omega), if_neg (by unfold isLinkW; simp; omega)]
  have hb1 : (k == 1) = false := by simp; omega
  have hb2 : (k == 2) = false := by simp; omega
  go_enter Tryz.func165, Tryz.ntmps165
  go_wp2_with fail
  go_ret
  exact ⟨ret_int HR.out.symm, rfl⟩

theorem kindW_obj {x : Int} (h : isObjW x = true) : kindW x = 1 := by unfold kindW; rw [h]; rfl
theorem kindW_link {x : Int} (h : isLinkW x = true) : kindW x = 2 := by
  unfold kindW
  have : isObjW x = false := by
    unfold isLinkW at h; unfold isObjW
    simp only [Bool.and_eq_true, decide_eq_true_eq] at h
    rw [show decide (x / 72057594037927936 = 1) = false by simp; omega]; rfl
  rw [this, h]; rfl
theorem kindW_no {x : Int} (h : isObjW x = false) (h' : isLinkW x = false) : kindW x = 0 := by unfold kindW; rw [h, h']; rfl

theorem header_Parse (x : Int) (h0 : 0 ≤ x) (h1 : Hid (x < 18446744073709551616)) (w : World) (hS : Sizes w) :
    Calls Tryz.prog 145 #[.int .u64 x] w fun e w' => e = .returned (.tuple #[.int .i64 (match isObjW x with | true => x / 256 % 256 | false => 0), .int .i64 (match isObjW x with | true => x % 256 | false => 0), .bool (isObjW x)]) ∧ w = w' := by
  have HZ := Lib.hid hS
  have HP := Lib.hid (fun w => header_parts x h0 h1 w)
  cases hk : isObjW x
  · have HK : Hid (kindW x = 0 ∨ kindW x = 2) := by
      show kindW x = 0 ∨ kindW x = 2
      cases hl : isLinkW x
      · exact .inl (kindW_no hk hl)
      · exact .inr (kindW_link hl)
    clear hk
    rcases HK.out with h | h
    all_goals
      have HK2 := Lib.hid h
      clear h
      go_enter Tryz.func145, Tryz.ntmps145
      go_wp2_with (go_at_call 165; refine (header_Kind x h0 h1 _ HZ.out).mono ?_; rintro e w' ⟨rfl, rfl⟩; rw [HK2.out])
      go_ret3
      exact ⟨rfl, rfl⟩
  · have HK2 := Lib.hid (kindW_obj hk)
    clear hk
    go_enter Tryz.func145, Tryz.ntmps145
    go_wp2_with (first | (go_at_call 165; refine (header_Kind x h0 h1 _ HZ.out).mono ?_; rintro e w' ⟨rfl, rfl⟩; rw [HK2.out]) | (go_at_call 166; refine (HP.out _).mono ?_; rintro e w' ⟨rfl, rfl⟩))
    go_ret3
    exact ⟨rfl, rfl⟩

theorem header_Next (x : Int) (h0 : 0 ≤ x) (h1 : Hid (x < 18446744073709551616)) (w : World) (hS : Sizes w) :
    Calls Tryz.prog 185 #[.int .u64 x] w fun e w' => e = .returned (.tuple #[.int .i64 (match isLinkW x with | true => x % 72057594037927936 | false => 0), .bool (isLinkW x)]) ∧ w = w' := by
  have HZ := Lib.hid hS
  have HA := Lib.hid (fun w => header_address x h0 h1 w)
  cases hk : isLinkW x
  · have HK : Hid (kindW x = 0 ∨ kindW x = 1) := by
      show kindW x = 0 ∨ kindW x = 1
      cases hl : isObjW x
      · exact .inl (kindW_no hl hk)
      · exact .inr (kindW_obj hl)
    clear hk
    rcases HK.out with h | h
    all_goals
      have HK2 := Lib.hid h
      clear h
      go_enter Tryz.func185, Tryz.ntmps185
      go_wp2_with (go_at_call 165; refine (header_Kind x h0 h1 _ HZ.out).mono ?_; rintro e w' ⟨rfl, rfl⟩; rw [HK2.out])
      go_ret2
      exact ⟨rfl, rfl⟩
  · have HK2 := Lib.hid (kindW_link hk)
    clear hk
    go_enter Tryz.func185, Tryz.ntmps185
    go_wp2_with (first | (go_at_call 165; refine (header_Kind x h0 h1 _ HZ.out).mono ?_; rintro e w' ⟨rfl, rfl⟩; rw [HK2.out]) | (go_at_call 179; refine (HA.out _).mono ?_; rintro e w' ⟨rfl, rfl⟩))
    go_ret2
    exact ⟨rfl, rfl⟩

theorem obj_facts {c n : Int} (h : objOk c n = true) : 0 ≤ hObj c n ∧ hObj c n < 18446744073709551616 ∧ isObjW (hObj c n) = true ∧ isLinkW (hObj c n) = false ∧ hObj c n / 256 % 256 = c ∧ hObj c n % 256 = n ∧ kindW (hObj c n) = 1 := by
  obtain ⟨hc, h0, h1⟩ := objOk_iff.1 h
  have hr := (clsRoom_bd c).2
  obtain ⟨c0, c1⟩ := isCls_iff.1 hc
  have e1 : hObj c n / 256 % 256 = c := by unfold hObj laidI; omega
  have e2 : hObj c n % 256 = n := by unfold hObj laidI; omega
  have e3 : hObj c n / 72057594037927936 = 1 := by unfold hObj laidI; omega
  have e4 : isObjW (hObj c n) = true := by unfold isObjW; rw [e1, e2, e3, h]; simp
  exact ⟨by unfold hObj laidI; omega, by unfold hObj laidI; omega, e4, by unfold isLinkW; rw [e3]; simp, e1, e2, kindW_obj e4⟩
theorem link_facts {a : Int} (h : linkOk a = true) : 0 ≤ hLink a ∧ hLink a < 18446744073709551616 ∧ isLinkW (hLink a) = true ∧ isObjW (hLink a) = false ∧ hLink a % 72057594037927936 = a ∧ kindW (hLink a) = 2 := by
  obtain ⟨h0, h1⟩ := linkOk_iff.1 h
  have e1 : hLink a % 72057594037927936 = a := by unfold hLink laidI; omega
  have e3 : hLink a / 72057594037927936 = 2 := by unfold hLink laidI; omega
  have e4 : isLinkW (hLink a) = true := by unfold isLinkW; rw [e1, e3, h]; simp
  exact ⟨by unfold hLink laidI; omega, by unfold hLink laidI; omega, e4, by unfold isObjW; rw [e3]; simp, e1, kindW_link e4⟩
end Go.Proofs.YtnobempbcdkoaaaGreatDoor
namespace Go.Proofs.YtnobempbcdkoaaaGreatDoor
open Go.RowKit Go.Sort

theorem gLimits : Tryz.prog.globalNamed "dustpan/config.limits" = some 1 := by kernel_rfl
theorem tLimits : (Tryz.prog.globals[1]?).map (·.type) = some 223 := by kernel_rfl
/-- The table of limits reads as laid. -/
def Limits (w : World) : Prop := ∀ i, w.cell? ⟨1, i, none⟩ = [Value.int .i64 1, .int .i64 4096, .int .i64 16, .int .i64 256, .int .i64 1, .int .i64 8, .int .i64 1, .int .i64 64, .int .i64 0, .int .i64 64, .int .i64 1, .int .i64 256, .int .i64 1, .int .i64 4096][i]?
theorem limits_of_cells {w : World} (h : ∀ i, w.cell? ⟨1, i, none⟩ = [Value.int .i64 1, .int .i64 4096, .int .i64 16, .int .i64 256, .int .i64 1, .int .i64 8, .int .i64 1, .int .i64 64, .int .i64 0, .int .i64 64, .int .i64 1, .int .i64 256, .int .i64 1, .int .i64 4096][i]?) : Limits w := h
theorem Limits.lt {w : World} (h : Limits w) : 1 < w.heap.size := block_lt_of_cell (h 0)
theorem Limits.touch {S : Nat → Prop} {w w' : World} (h : Limits w) (ht : Touch S w w') (hs : ¬ S 1) : Limits w' := fun i => (ht.cell h.lt hs).trans (h i)

set_option maxHeartbeats 800000 in
theorem config_numbers (b : Nat) (w : World) :
    Calls Tryz.prog 180 #[.pointer (some ⟨b, 0, none⟩)] w fun e w' => e = .returned (.agg #[.pointer (some ⟨b, 0, none⟩), .pointer (some ⟨b, 1, none⟩), .pointer (some ⟨b, 2, none⟩), .pointer (some ⟨b, 3, none⟩), .pointer (some ⟨b, 4, none⟩), .pointer (some ⟨b, 5, none⟩), .pointer (some ⟨b, 6, none⟩)]) ∧ Below w.heap.size w w' := by
  go_enter Tryz.func180, Tryz.ntmps180
  go_wp2
  go_region
  go_wp2
  refine bodyPost_ret (v := .agg #[.pointer (some ⟨b, 0, none⟩), .pointer (some ⟨b, 1, none⟩), .pointer (some ⟨b, 2, none⟩), .pointer (some ⟨b, 3, none⟩), .pointer (some ⟨b, 4, none⟩), .pointer (some ⟨b, 5, none⟩), .pointer (some ⟨b, 6, none⟩)]) (by simp [results, Tryz.results180, go_sem]) rfl ⟨rfl, ?_⟩
  exact (((Touch.refl nob w).alloc _).drew).below

def clampI (lo hi n : Int) : Int := max lo (min hi n)
theorem clampI_id {lo hi n : Int} (h : lo ≤ n) (h' : n ≤ hi) : clampI lo hi n = n := by unfold clampI; omega
theorem clampI_bd (lo hi n : Int) (h : lo ≤ hi) : lo ≤ clampI lo hi n ∧ clampI lo hi n ≤ hi := by unfold clampI; omega
theorem clampI_iff {lo hi n : Int} (h : lo ≤ hi) : clampI lo hi n = n ↔ (lo ≤ n ∧ n ≤ hi) := by unfold clampI; omega

/-- The cells of the config's box behind i rounds. -/
def clampRow (c0 c1 c2 c3 c4 c5 c6 : Int) (i : Nat) : Array Value :=
  #[.int .i64 (if 0 < i then clampI 1 4096 c0 else c0), .int .i64 (if 1 < i then clampI 16 256 c1 else c1), .int .i64 (if 2 < i then clampI 1 8 c2 else c2), .int .i64 (if 3 < i then clampI 1 64 c3 else c3),
    .int .i64 (if 4 < i then clampI 0 64 c4 else c4), .int .i64 (if 5 < i then clampI 1 256 c5 else c5), .int .i64 (if 6 < i then clampI 1 4096 c6 else c6)]

set_option maxHeartbeats 4000000 in
theorem config_Clamp (c0 c1 c2 c3 c4 c5 c6 : Int) (w : World) (hL : Limits w) :
    Calls Tryz.prog 169 #[.agg #[.int .i64 c0, .int .i64 c1, .int .i64 c2, .int .i64 c3, .int .i64 c4, .int .i64 c5, .int .i64 c6]] w fun e w' =>
      e = .returned (.agg #[.int .i64 (clampI 1 4096 c0), .int .i64 (clampI 16 256 c1), .int .i64 (clampI 1 8 c2), .int .i64 (clampI 1 64 c3), .int .i64 (clampI 0 64 c4), .int .i64 (clampI 1 256 c5), .int .i64 (clampI 1 4096 c6)]) ∧ Below w.heap.size w w' := by
  have HL := Lib.hid hL
  clear hL
  go_enter Tryz.func169, Tryz.ntmps169
  go_wp2_with (go_at_call 180; refine (config_numbers w.heap.size _).mono ?_; rintro e w1 ⟨rfl, hb⟩)
  obtain ⟨b, hbz⟩ : ∃ b, b = w.heap.size := ⟨_, rfl⟩
  have hb0 : w1.heap[b]? = some (Obj.cells (clampRow c0 c1 c2 c3 c4 c5 c6 0) 23) := by rw [hbz]; exact (hb.block w.heap.size (by simp only [World.size_alloc]; omega)).trans ((alloc2_0 w _ _).trans rfl)
  have hb1 : w1.heap[b + 1]? = some (Obj.cells #[.int .i64 0, .int .i64 0, .int .i64 0, .int .i64 0, .int .i64 0, .int .i64 0, .int .i64 0] 23) := by rw [hbz]; exact (hb.block (w.heap.size + 1) (by simp only [World.size_alloc]; omega)).trans (alloc2_1 w _ _)
  have hT1 : Touch nob w w1 := (((Touch.refl nob w).alloc _).alloc _).trans (Touch.of_below hb)
  rw [← hbz]
  have HB := Lib.hid hbz
  clear hb hbz
  go_loopw [3, 4, 6] (fun _ _ c wr => ∃ i : Int, 0 ≤ i ∧ i ≤ 7 ∧ c = .int .i64 i ∧ Hid (wr.heap[b]? = some (Obj.cells (clampRow c0 c1 c2 c3 c4 c5 c6 i.toNat) 23) ∧ wr.heap[b + 1]? = some (Obj.cells #[.int .i64 0, .int .i64 0, .int .i64 0, .int .i64 0, .int .i64 0, .int .i64 0, .int .i64 0] 23) ∧ Touch nob w wr)) (fun _ _ c _ => 7 - (intOf c).toNat)
  case atStart => exact ⟨0, by omega, by omega, rfl, hb0, hb1, hT1⟩
  case round =>
    obtain ⟨i, hi0, hi, rfl, HI⟩ := hrel
    obtain ⟨r0, r1, rT⟩ := HI.out
    clear hb0 hb1 hT1
    have hl := HL.out.touch rT (fun x => x)
    have hr : b + 1 < wr.heap.size := (Array.getElem?_eq_some_iff.1 r1).1
    by_cases hlt : i < 7
    · have cellL : ∀ j v, [Value.int .i64 1, .int .i64 4096, .int .i64 16, .int .i64 256, .int .i64 1, .int .i64 8, .int .i64 1, .int .i64 64, .int .i64 0, .int .i64 64, .int .i64 1, .int .i64 256, .int .i64 1, .int .i64 4096][j]? = some v → wr.cell? ⟨1, j, none⟩ = some v := fun j v h => (hl j).trans h
      have cellB : ∀ j v, (clampRow c0 c1 c2 c3 c4 c5 c6 i.toNat)[j]? = some v → wr.cell? ⟨b, j, none⟩ = some v ∧ wr.frozen? ⟨b, j, none⟩ = false := fun j v h => ⟨by simp [World.cell?, r0, h], by simp [World.frozen?, r0]⟩
      have HT := Lib.hid rT
      have H1 := Lib.hid r1
      have H0 := Lib.hid r0
      clear hl r0 r1 rT
      rcases (show i = 0 ∨ i = 1 ∨ i = 2 ∨ i = 3 ∨ i = 4 ∨ i = 5 ∨ i = 6 by omega) with rfl | rfl | rfl | rfl | rfl | rfl | rfl
      · have l0 := cellL 0 (.int .i64 1) rfl
        have l1 := cellL 1 (.int .i64 4096) rfl
        obtain ⟨x0, x1⟩ := cellB 0 (.int .i64 c0) rfl
        have ix : ∀ (w : World), (Instr.index 220 (.agg #[.pointer (some ⟨b, 0, none⟩), .pointer (some ⟨b, 1, none⟩), .pointer (some ⟨b, 2, none⟩), .pointer (some ⟨b, 3, none⟩), .pointer (some ⟨b, 4, none⟩), .pointer (some ⟨b, 5, none⟩), .pointer (some ⟨b, 6, none⟩)]) (.int .i64 0)).run Tryz.prog w = .ok (.pointer (some ⟨b, 0, none⟩)) w := fun _ => by kernel_rfl
        clear cellL cellB
        go_wp2
        go_region
        go_wp2
        go_roundw
        case rel =>
          refine ⟨1, by omega, by omega, rfl, (set_cells (w := wr.drew) 0 _ H0.out).trans ?_, (set_other (w := wr.drew) _ (by omega)).trans H1.out, (HT.out.drew).setCell (.inr (by have := HB.out; simp; omega)) _⟩
          simp [clampRow, clampI]
          (repeat' split) <;> omega
        case measure => simp [intOf]
      · have l0 := cellL 2 (.int .i64 16) rfl
        have l1 := cellL 3 (.int .i64 256) rfl
        obtain ⟨x0, x1⟩ := cellB 1 (.int .i64 c1) rfl
        have ix : ∀ (w : World), (Instr.index 220 (.agg #[.pointer (some ⟨b, 0, none⟩), .pointer (some ⟨b, 1, none⟩), .pointer (some ⟨b, 2, none⟩), .pointer (some ⟨b, 3, none⟩), .pointer (some ⟨b, 4, none⟩), .pointer (some ⟨b, 5, none⟩), .pointer (some ⟨b, 6, none⟩)]) (.int .i64 1)).run Tryz.prog w = .ok (.pointer (some ⟨b, 1, none⟩)) w := fun _ => by kernel_rfl
        clear cellL cellB
        go_wp2
        go_region
        go_wp2
        go_roundw
        case rel =>
          refine ⟨2, by omega, by omega, rfl, (set_cells (w := wr.drew) 1 _ H0.out).trans ?_, (set_other (w := wr.drew) _ (by omega)).trans H1.out, (HT.out.drew).setCell (.inr (by have := HB.out; simp; omega)) _⟩
          simp [clampRow, clampI]
          (repeat' split) <;> omega
        case measure => simp [intOf]
      · have l0 := cellL 4 (.int .i64 1) rfl
        have l1 := cellL 5 (.int .i64 8) rfl
        obtain ⟨x0, x1⟩ := cellB 2 (.int .i64 c2) rfl
        have ix : ∀ (w : World), (Instr.index 220 (.agg #[.pointer (some ⟨b, 0, none⟩), .pointer (some ⟨b, 1, none⟩), .pointer (some ⟨b, 2, none⟩), .pointer (some ⟨b, 3, none⟩), .pointer (some ⟨b, 4, none⟩), .pointer (some ⟨b, 5, none⟩), .pointer (some ⟨b, 6, none⟩)]) (.int .i64 2)).run Tryz.prog w = .ok (.pointer (some ⟨b, 2, none⟩)) w := fun _ => by kernel_rfl
        clear cellL cellB
        go_wp2
        go_region
        go_wp2
        go_roundw
        case rel =>
          refine ⟨3, by omega, by omega, rfl, (set_cells (w := wr.drew) 2 _ H0.out).trans ?_, (set_other (w := wr.drew) _ (by omega)).trans H1.out, (HT.out.drew).setCell (.inr (by have := HB.out; simp; omega)) _⟩
          simp [clampRow, clampI]
          (repeat' split) <;> omega
        case measure => simp [intOf]
      · have l0 := cellL 6 (.int .i64 1) rfl
        have l1 := cellL 7 (.int .i64 64) rfl
        obtain ⟨x0, x1⟩ := cellB 3 (.int .i64 c3) rfl
        have ix : ∀ (w : World), (Instr.index 220 (.agg #[.pointer (some ⟨b, 0, none⟩), .pointer (some ⟨b, 1, none⟩), .pointer (some ⟨b, 2, none⟩), .pointer (some ⟨b, 3, none⟩), .pointer (some ⟨b, 4, none⟩), .pointer (some ⟨b, 5, none⟩), .pointer (some ⟨b, 6, none⟩)]) (.int .i64 3)).run Tryz.prog w = .ok (.pointer (some ⟨b, 3, none⟩)) w := fun _ => by kernel_rfl
        clear cellL cellB
        go_wp2
        go_region
        go_wp2
        go_roundw
        case rel =>
          refine ⟨4, by omega, by omega, rfl, (set_cells (w := wr.drew) 3 _ H0.out).trans ?_, (set_other (w := wr.drew) _ (by omega)).trans H1.out, (HT.out.drew).setCell (.inr (by have := HB.out; simp; omega)) _⟩
          simp [clampRow, clampI]
          (repeat' split) <;> omega
        case measure => simp [intOf]
      · have l0 := cellL 8 (.int .i64 0) rfl
        have l1 := cellL 9 (.int .i64 64) rfl
        obtain ⟨x0, x1⟩ := cellB 4 (.int .i64 c4) rfl
        have ix : ∀ (w : World), (Instr.index 220 (.agg #[.pointer (some ⟨b, 0, none⟩), .pointer (some ⟨b, 1, none⟩), .pointer (some ⟨b, 2, none⟩), .pointer (some ⟨b, 3, none⟩), .pointer (some ⟨b, 4, none⟩), .pointer (some ⟨b, 5, none⟩), .pointer (some ⟨b, 6, none⟩)]) (.int .i64 4)).run Tryz.prog w = .ok (.pointer (some ⟨b, 4, none⟩)) w := fun _ => by kernel_rfl
        clear cellL cellB
        go_wp2
        go_region
        go_wp2
        go_roundw
        case rel =>
          refine ⟨5, by omega, by omega, rfl, (set_cells (w := wr.drew) 4 _ H0.out).trans ?_, (set_other (w := wr.drew) _ (by omega)).trans H1.out, (HT.out.drew).setCell (.inr (by have := HB.out; simp; omega)) _⟩
          simp [clampRow, clampI]
          (repeat' split) <;> omega
        case measure => simp [intOf]
      · have l0 := cellL 10 (.int .i64 1) rfl
        have l1 := cellL 11 (.int .i64 256) rfl
        obtain ⟨x0, x1⟩ := cellB 5 (.int .i64 c5) rfl
        have ix : ∀ (w : World), (Instr.index 220 (.agg #[.pointer (some ⟨b, 0, none⟩), .pointer (some ⟨b, 1, none⟩), .pointer (some ⟨b, 2, none⟩), .pointer (some ⟨b, 3, none⟩), .pointer (some ⟨b, 4, none⟩), .pointer (some ⟨b, 5, none⟩), .pointer (some ⟨b, 6, none⟩)]) (.int .i64 5)).run Tryz.prog w = .ok (.pointer (some ⟨b, 5, none⟩)) w := fun _ => by kernel_rfl
        clear cellL cellB
        go_wp2
        go_region
        go_wp2
        go_roundw
        case rel =>
          refine ⟨6, by omega, by omega, rfl, (set_cells (w := wr.drew) 5 _ H0.out).trans ?_, (set_other (w := wr.drew) _ (by omega)).trans H1.out, (HT.out.drew).setCell (.inr (by have := HB.out; simp; omega)) _⟩
          simp [clampRow, clampI]
          (repeat' split) <;> omega
        case measure => simp [intOf]
      · have l0 := cellL 12 (.int .i64 1) rfl
        have l1 := cellL 13 (.int .i64 4096) rfl
        obtain ⟨x0, x1⟩ := cellB 6 (.int .i64 c6) rfl
        have ix : ∀ (w : World), (Instr.index 220 (.agg #[.pointer (some ⟨b, 0, none⟩), .pointer (some ⟨b, 1, none⟩), .pointer (some ⟨b, 2, none⟩), .pointer (some ⟨b, 3, none⟩), .pointer (some ⟨b, 4, none⟩), .pointer (some ⟨b, 5, none⟩), .pointer (some ⟨b, 6, none⟩)]) (.int .i64 6)).run Tryz.prog w = .ok (.pointer (some ⟨b, 6, none⟩)) w := fun _ => by kernel_rfl
        clear cellL cellB
        go_wp2
        go_region
        go_wp2
        go_roundw
        case rel =>
          refine ⟨7, by omega, by omega, rfl, (set_cells (w := wr.drew) 6 _ H0.out).trans ?_, (set_other (w := wr.drew) _ (by omega)).trans H1.out, (HT.out.drew).setCell (.inr (by have := HB.out; simp; omega)) _⟩
          simp [clampRow, clampI]
          (repeat' split) <;> omega
        case measure => simp [intOf]
    · obtain rfl : i = 7 := by omega
      have H0 := Lib.hid r0
      have HT := Lib.hid rT
      have cellB : ∀ j v, (clampRow c0 c1 c2 c3 c4 c5 c6 7)[j]? = some v → wr.cell? ⟨b, j, none⟩ = some v := fun j v h => by simp [World.cell?, r0, h]
      have x0 := cellB 0 (.int .i64 (clampI 1 4096 c0)) rfl
      have x1 := cellB 1 (.int .i64 (clampI 16 256 c1)) rfl
      have x2 := cellB 2 (.int .i64 (clampI 1 8 c2)) rfl
      have x3 := cellB 3 (.int .i64 (clampI 1 64 c3)) rfl
      have x4 := cellB 4 (.int .i64 (clampI 0 64 c4)) rfl
      have x5 := cellB 5 (.int .i64 (clampI 1 256 c5)) rfl
      have x6 := cellB 6 (.int .i64 (clampI 1 4096 c6)) rfl
      have y : ∀ j v, (#[.int .i64 0, .int .i64 0, .int .i64 0, .int .i64 0, .int .i64 0, .int .i64 0, .int .i64 0] : Array Value)[j]? = some v → wr.cell? ⟨b + 1, j, none⟩ = some v ∧ wr.frozen? ⟨b + 1, j, none⟩ = false := fun j v h => ⟨by simp [World.cell?, r1, h], by simp [World.frozen?, r1]⟩
      obtain ⟨y0, z0⟩ := y 0 (.int .i64 0) rfl
      obtain ⟨y1, z1⟩ := y 1 (.int .i64 0) rfl
      obtain ⟨y2, z2⟩ := y 2 (.int .i64 0) rfl
      obtain ⟨y3, z3⟩ := y 3 (.int .i64 0) rfl
      obtain ⟨y4, z4⟩ := y 4 (.int .i64 0) rfl
      obtain ⟨y5, z5⟩ := y 5 (.int .i64 0) rfl
      obtain ⟨y6, z6⟩ := y 6 (.int .i64 0) rfl
      have H1 := Lib.hid r1
      clear cellB r0 r1 rT hl y
      go_wp2
      refine bodyPost_ret (v := .agg #[.int .i64 (clampI 1 4096 c0), .int .i64 (clampI 16 256 c1), .int .i64 (clampI 1 8 c2), .int .i64 (clampI 1 64 c3), .int .i64 (clampI 0 64 c4), .int .i64 (clampI 1 256 c5), .int .i64 (clampI 1 4096 c6)]) (by simp [results, Tryz.results169, go_sem, y0, y1, y2, y3, y4, y5, y6]) rfl ⟨rfl, Touch.below ?_⟩
      repeat (first | with_reducible exact HT.out | refine Touch.setCell ?_ (.inr (by have := HB.out; simp; omega)) _)

/-- Are a config's numbers right? -/
def cfgOk (c0 c1 c2 c3 c4 c5 c6 : Int) : Bool :=
  decide (1 ≤ c0) && decide (c0 ≤ 4096) && (decide (16 ≤ c1) && decide (c1 ≤ 256)) && (decide (1 ≤ c2) && decide (c2 ≤ 8)) && (decide (1 ≤ c3) && decide (c3 ≤ 64)) && (decide (0 ≤ c4) && decide (c4 ≤ 64)) && (decide (1 ≤ c5) && decide (c5 ≤ 256)) && (decide (1 ≤ c6) && decide (c6 ≤ 4096))
theorem cfgOk_iff {c0 c1 c2 c3 c4 c5 c6 : Int} : cfgOk c0 c1 c2 c3 c4 c5 c6 = true ↔ (1 ≤ c0 ∧ c0 ≤ 4096) ∧ (16 ≤ c1 ∧ c1 ≤ 256) ∧ (1 ≤ c2 ∧ c2 ≤ 8) ∧ (1 ≤ c3 ∧ c3 ≤ 64) ∧ (0 ≤ c4 ∧ c4 ≤ 64) ∧ (1 ≤ c5 ∧ c5 ≤ 256) ∧ (1 ≤ c6 ∧ c6 ≤ 4096) := by
  unfold cfgOk; simp only [Bool.and_eq_true, decide_eq_true_eq]; omega

def cfgSame (a0 a1 a2 a3 a4 a5 a6 b0 b1 b2 b3 b4 b5 b6 : Int) : Bool := a0 == b0 && (a1 == b1 && (a2 == b2 && (a3 == b3 && (a4 == b4 && (a5 == b5 && a6 == b6)))))
theorem cfgSame_self (a0 a1 a2 a3 a4 a5 a6 : Int) : cfgSame a0 a1 a2 a3 a4 a5 a6 a0 a1 a2 a3 a4 a5 a6 = true := by simp [cfgSame]
theorem cfgSame_clamp (c0 c1 c2 c3 c4 c5 c6 : Int) : cfgSame (clampI 1 4096 c0) (clampI 16 256 c1) (clampI 1 8 c2) (clampI 1 64 c3) (clampI 0 64 c4) (clampI 1 256 c5) (clampI 1 4096 c6) c0 c1 c2 c3 c4 c5 c6 = cfgOk c0 c1 c2 c3 c4 c5 c6 := by
  rw [Bool.eq_iff_iff, cfgOk_iff]
  unfold cfgSame
  simp only [Bool.and_eq_true, beq_iff_eq]
  rw [clampI_iff (by omega), clampI_iff (by omega), clampI_iff (by omega), clampI_iff (by omega), clampI_iff (by omega), clampI_iff (by omega), clampI_iff (by omega)]
set_option maxHeartbeats 1000000 in
theorem run_cfg_eql (a0 a1 a2 a3 a4 a5 a6 b0 b1 b2 b3 b4 b5 b6 : Int) (w : World) :
    (binOp .eql 23 (.agg #[.int .i64 a0, .int .i64 a1, .int .i64 a2, .int .i64 a3, .int .i64 a4, .int .i64 a5, .int .i64 a6]) (.agg #[.int .i64 b0, .int .i64 b1, .int .i64 b2, .int .i64 b3, .int .i64 b4, .int .i64 b5, .int .i64 b6])).run Tryz.prog w = .ok (.bool (cfgSame a0 a1 a2 a3 a4 a5 a6 b0 b1 b2 b3 b4 b5 b6)) w := by
  unfold cfgSame
  go_simp
  repeat' split
  all_goals simp_all
set_option maxHeartbeats 1000000 in
theorem run_cfg_neq (a0 a1 a2 a3 a4 a5 a6 b0 b1 b2 b3 b4 b5 b6 : Int) (w : World) :
    (binOp .neq 23 (.agg #[.int .i64 a0, .int .i64 a1, .int .i64 a2, .int .i64 a3, .int .i64 a4, .int .i64 a5, .int .i64 a6]) (.agg #[.int .i64 b0, .int .i64 b1, .int .i64 b2, .int .i64 b3, .int .i64 b4, .int .i64 b5, .int .i64 b6])).run Tryz.prog w = .ok (.bool (!cfgSame a0 a1 a2 a3 a4 a5 a6 b0 b1 b2 b3 b4 b5 b6)) w := by
  unfold cfgSame
  go_simp
  repeat' split
  all_goals simp_all

set_option maxHeartbeats 1000000 in
theorem config_Right (c0 c1 c2 c3 c4 c5 c6 : Int) (w : World) (hL : Limits w) :
    Calls Tryz.prog 148 #[.agg #[.int .i64 c0, .int .i64 c1, .int .i64 c2, .int .i64 c3, .int .i64 c4, .int .i64 c5, .int .i64 c6]] w fun e w' => e = .returned (.bool (cfgOk c0 c1 c2 c3 c4 c5 c6)) ∧ Below w.heap.size w w' := by
  have HL := Lib.hid hL
  clear hL
  go_enter Tryz.func148, Tryz.ntmps148
  go_wp2
  obtain ⟨W, hW⟩ : ∃ W, W = w.alloc (Obj.cells #[.int .i64 c0, .int .i64 c1, .int .i64 c2, .int .i64 c3, .int .i64 c4, .int .i64 c5, .int .i64 c6] 23) := ⟨_, rfl⟩
  obtain ⟨b, hb⟩ : ∃ b, b = w.heap.size := ⟨_, rfl⟩
  rw [← hW, ← hb]
  have hr : W.heap[b]? = some (Obj.cells #[.int .i64 c0, .int .i64 c1, .int .i64 c2, .int .i64 c3, .int .i64 c4, .int .i64 c5, .int .i64 c6] 23) := by rw [hW, hb]; exact World.alloc_heap_new _ _
  have hT : Touch nob w W := by rw [hW]; exact (Touch.refl _ _).alloc _
  have cB : ∀ j v, (#[.int .i64 c0, .int .i64 c1, .int .i64 c2, .int .i64 c3, .int .i64 c4, .int .i64 c5, .int .i64 c6] : Array Value)[j]? = some v → W.cell? ⟨b, j, none⟩ = some v := fun j v h => by simp [World.cell?, hr, h]
  have k0 := cell_regrown (cB 0 (.int .i64 c0) rfl)
  have k1 := cell_regrown (cB 1 (.int .i64 c1) rfl)
  have k2 := cell_regrown (cB 2 (.int .i64 c2) rfl)
  have k3 := cell_regrown (cB 3 (.int .i64 c3) rfl)
  have k4 := cell_regrown (cB 4 (.int .i64 c4) rfl)
  have k5 := cell_regrown (cB 5 (.int .i64 c5) rfl)
  have k6 := cell_regrown (cB 6 (.int .i64 c6) rfl)
  have cC : ∀ d os, Calls Tryz.prog 169 #[.agg #[.int .i64 c0, .int .i64 c1, .int .i64 c2, .int .i64 c3, .int .i64 c4, .int .i64 c5, .int .i64 c6]] (grow (redrawn W d) os) fun e w'' => e = .returned (.agg #[.int .i64 (clampI 1 4096 c0), .int .i64 (clampI 16 256 c1), .int .i64 (clampI 1 8 c2), .int .i64 (clampI 1 64 c3), .int .i64 (clampI 0 64 c4), .int .i64 (clampI 1 256 c5), .int .i64 (clampI 1 4096 c6)]) ∧ ∃ p : Regrown, w'' = grow (redrawn W p.d) p.os := fun d os =>
    Calls.regrown_of (config_Clamp c0 c1 c2 c3 c4 c5 c6 _ ((HL.out.touch hT (fun x => x)).touch (S := nob) (Touch.of_below (below_regrown W d os)) (fun x => x)))
  have H := Lib.hid (And.intro hT hb)
  clear hW hb hr hT cB
  have hE := run_cfg_eql (clampI 1 4096 c0) (clampI 16 256 c1) (clampI 1 8 c2) (clampI 1 64 c3) (clampI 0 64 c4) (clampI 1 256 c5) (clampI 1 4096 c6) c0 c1 c2 c3 c4 c5 c6
  have HE := Lib.hid (cfgSame_clamp c0 c1 c2 c3 c4 c5 c6)
  refine wp_region_quiet_below (by kernel_rfl) (by kernel_rfl) ?_
  repeat (quiet_step (exact cC _ _))
  refine wpQuiet_nil ?_
  intro _ hw'
  obtain ⟨⟨dq, osq⟩, hw''⟩ := hw'
  subst hw''
  go_wp2
  go_ret
  exact ⟨ret_bool HE.out, (H.out.1.trans (Touch.of_below (below_regrown W dq osq))).below⟩
end Go.Proofs.YtnobempbcdkoaaaGreatDoor
namespace Go.Proofs.YtnobempbcdkoaaaGreatDoor
open Go.RowKit

section
variable {P : Program} {ops : Array Oper} {md : Region.Mode} {C : World → Prop} {l₀ : Nat} {n : Nat}

def noDefer (o : Oper) : Bool := match o.op with | .defer _ => false | _ => true

theorem wpInR_of_quiet {o : Oper} {a : Act} {K : Act → Prop} {K' : Act → World → Prop} {Q' : Exit → Act → World → Prop} {w : World} (hnd : noDefer o = true) (hw : C w) (h : ∀ a w', C w' → K a → K' a w')
    (hh : o.quiet P a C K) : o.wpIn (Fence.wide.inRound l₀) n P a w K' Q' := by
  obtain ⟨v, h1, h2⟩ := hh
  have h3 := h1 w hw
  unfold Oper.quietAt at h3
  unfold Oper.wpIn
  refine ⟨fun _ _ => trivial, ?_⟩
  rw [Oper.semAt_eq _ _ _ (fun c e => by simp [noDefer, e] at hnd)]
  generalize (execOp a.eval o).run P w = r at *
  cases r with
  | ok x w' =>
    cases x <;> simp only [Oper.quietUpon] at h3 <;> simp only [Oper.uponIn]
    case value u =>
      obtain ⟨e1, e2⟩ := h3
      rw [e1, e2]
      exact h _ _ hw h2
    case skip =>
      obtain ⟨e1, e2⟩ := h3
      rw [e1, ← e2]
      exact h _ _ hw h2
    case enter f args =>
      obtain ⟨e1, hc⟩ := h3
      rw [e1]
      exact ⟨fun h => by simp [Fence.wide] at h, CallsIn.inRound l₀ (callsIn_wide.2 (hc.mono fun e w'' ⟨he, hw''⟩ => by subst he; exact h _ _ hw'' h2))⟩
  | halt x w' => simp only [Oper.quietUpon] at h3

theorem wpOpInR_of_qOp {i : Nat} {a : Act} {K : Act → Prop} {K' : Act → World → Prop} {Q' : Exit → Act → World → Prop} {w : World} (hnd : ops.all noDefer = true) (hC : C w) (h : ∀ a w', C w' → K a → K' a w')
    (hh : qOp P ops C i K a) : wpOpIn (Fence.wide.inRound l₀) n P ops Q' i K' a w := by
  unfold qOp at hh
  unfold wpOpIn
  split
  · rename_i ho; simp only [ho] at hh; exact h _ _ hC hh
  · rename_i o ho
    simp only [ho] at hh
    have hd : noDefer o = true := by
      rw [Array.all_eq_true] at hnd
      obtain ⟨hlt, rfl⟩ := Array.getElem?_eq_some_iff.1 ho
      exact hnd i hlt
    split
    · rename_i hw; simp only [hw, if_true] at hh; exact wpInR_of_quiet hd hC h hh
    · rename_i hw; simp only [hw] at hh; exact ⟨fun _ _ => trivial, h _ _ hC hh⟩

theorem wpAnyInR_of_quiet {Q : Act → Prop} {Q' : Exit → Act → World → Prop} (hnd : ops.all noDefer = true) (hQ : ∀ a w, C w → Q a → Q' .normal a w) : ∀ (fuel : Nat) (listed : Array Bool) (a : Act) (w : World), C w →
    wpAnyQ P md ops C Q fuel listed a → wpAnyIn (Fence.wide.inRound l₀) n P md ops Q' fuel listed a w
  | 0, _, _, _, hw, h => ⟨h.1, hQ _ _ hw h.2⟩
  | fuel + 1, _, _, _, hw, h => ⟨fun h0 => hQ _ _ hw (h.1 h0), fun i hi => wpOpInR_of_qOp hnd hw (fun a' w' hw' => wpAnyInR_of_quiet hnd hQ fuel _ a' w' hw') (h.2 i hi)⟩

theorem wpInR_region_quiet_lit {id : Nat} {Q : Exit → Act → World → Prop} {a : Act} {w : World} {l : List Oper} (hm : P.follows .mixedOrders = true) (hB : Region.lexB .any l.toArray = true) (hnd : l.toArray.all noDefer = true)
    (h : wpQuiet P l.toArray (fun w' => ∃ n, w' = w.drewN n) (fun a' => ∀ w', (∃ n, w' = w.drewN n) → Q .normal a' w') l a) : (Code.region id l.toArray true).wpIn (Fence.wide.inRound l₀) n P Q a w := by
  simp only [Region.lexB, Bool.and_eq_true] at hB
  refine wpIn_region_any hm (wpAnyInR_of_quiet (C := fun w' => ∃ n, w' = w.drewN n) (Q := fun a' => ∀ w', (∃ n, w' = w.drewN n) → Q .normal a' w') hnd (fun _ w' hw' h => h w' hw') _ _ _ _ ⟨1, rfl⟩ ?_)
  have := wpAnyQ_lex (C := fun w' => ∃ n, w' = w.drewN n) (md := .any) hB.1 l 0 (Array.replicate l.toArray.size false) a (by simp) (by simpa using hB.2) h
  simpa using this
end
end Go.Proofs.YtnobempbcdkoaaaGreatDoor
namespace Go.Proofs.YtnobempbcdkoaaaGreatDoor
open Go.RowKit Go.Sort

section
variable {P : Program} {ops : Array Oper} {md : Region.Mode} {C : World → Prop}

def wpAnyQL (P : Program) (md : Region.Mode) (ops : Array Oper) (C : World → Prop) (n : Nat) (L : Array Bool → Act → Prop) : Nat → Array Bool → Act → Prop
  | 0, listed, a => L listed a
  | f + 1, listed, a =>
    Region.ready md ops listed ≠ [] ∧ ∀ i ∈ Region.ready md ops listed, i < n ∧ qOp P ops C i (wpAnyQL P md ops C n L f (listed.setIfInBounds i true)) a

theorem wpAny_of_headQ {n g : Nat} {L : Array Bool → Act → Prop} {Q' : Exit → Act → World → Prop} (hL : ∀ listed a w, C w → L listed a → wpAny P md ops Q' g listed a w) :
    ∀ (f : Nat) (listed : Array Bool) (a : Act) (w : World), C w → wpAnyQL P md ops C n L f listed a → wpAny P md ops Q' (f + g) listed a w
  | 0, listed, a, w, hw, h => by rw [Nat.zero_add]; exact hL _ _ _ hw h
  | f + 1, listed, a, w, hw, h => by
    rw [show f + 1 + g = (f + g) + 1 by omega]
    exact ⟨fun h0 => absurd h0 h.1, fun i hi => wpOp_of_qOp hw (fun a' w' hw' h' => wpAny_of_headQ hL f _ a' w' hw' h') (h.2 i hi).2⟩

theorem wpAnyQL_first {n i : Nat} {oi : Oper} {v : Value} {L : Array Bool → Act → Prop} (hi : ops[i]? = some oi) (hsel : ∀ (j : Nat) (o : Oper) cs b, ops[j]? = some o → o.op ≠ .select cs b)
    (hs : Region.sinkB md ops n = true) (hc : Region.chainB md ops n = true) (hn : n < ops.size) (hin : i < n)
    (hdone : ∀ listed a, L listed a → ∀ j ∈ Region.ready md ops listed, n ≤ j) :
    ∀ (f : Nat) (listed : Array Bool) (a : Act), HeadInv md ops n listed →
      (∀ j oj, ops[j]? = some oj → j ≠ i → listed.getD j true = false → (∀ e ∈ oj.after, Region.binds md e = true → e.on ≠ i) → oi.apart ops oj = true) →
      i ∈ Region.ready md ops listed → YieldsIn P ops C oi v a →
      wpAnyQL P md ops C n L f (listed.setIfInBounds i true) (a.put oi.dst v) → wpAnyQL P md ops C n L (f + 1) listed a := by
  intro f
  induction f with
  | zero =>
    intro listed a inv _ hr hy H
    have hun := (mem_ready.1 hr).1
    refine ⟨fun h => (by rw [h] at hr; cases hr), fun j hj => ?_⟩
    have hjn : j < n := by
      rcases Nat.lt_or_ge j n with h | h
      · exact h
      · exact absurd hj (tail_waits hs hc hn inv _ i rfl hin hun j h)
    refine ⟨hjn, ?_⟩
    by_cases hji : j = i
    · subst hji; exact hy.qOp hi H
    · have := hdone _ _ H j (ready_mono hj hji)
      omega
  | succ f ih =>
    intro listed a inv hfree hr hy H
    have hun := (mem_ready.1 hr).1
    refine ⟨fun h => (by rw [h] at hr; cases hr), fun j hj => ?_⟩
    have hjn : j < n := by
      rcases Nat.lt_or_ge j n with h | h
      · exact h
      · exact absurd hj (tail_waits hs hc hn inv _ i rfl hin hun j h)
    refine ⟨hjn, ?_⟩
    by_cases hji : j = i
    · subst hji; exact hy.qOp hi H
    · have h1 := (H.2 j (ready_mono hj hji)).2
      obtain ⟨hjun, oj, hoj, hall⟩ := mem_ready.1 hj
      have hnot : ∀ e ∈ oj.after, Region.binds md e = true → e.on ≠ i := fun e he hb heq => by
        have h1 := hall e he hb
        rw [heq, getD_both hun] at h1
        cases h1
      have h2 := qOp_put hoj (hfree j oj hoj hji hjun hnot) (fun cs b => hsel i oi cs b hi) (fun cs b => hsel j oj cs b hoj) hy h1
      have hfree' : ∀ k ok, ops[k]? = some ok → k ≠ i → (listed.setIfInBounds j true).getD k true = false →
          (∀ e ∈ ok.after, Region.binds md e = true → e.on ≠ i) → oi.apart ops ok = true := fun k ok hk hki hun hno => by
        refine hfree k ok hk hki ?_ hno
        by_cases hjk : j = k
        · subst hjk; exact hjun
        · rw [getD_set_ne true hjk] at hun; exact hun
      refine qOp_mono (fun a' h3 => ih (listed.setIfInBounds j true) a' (inv.set hj hjn) hfree' (ready_mono hr (Ne.symm hji)) h3.1 ?_) h2
      rw [Array.setIfInBounds_comm _ _ hji]
      exact h3.2

theorem wpAnyQL_lex {n g : Nat} {Lq : Act → Prop} (hsel : Region.noSelect ops = true) (hs : Region.sinkB md ops n = true) (hc : Region.chainB md ops n = true) (hn : n < ops.size) :
    ∀ (l : List Oper) (k : Nat) (listed : Array Bool) (a : Act), (∀ j, j < l.length → l[j]? = ops[k + j]?) → k + l.length = n → HeadInv md ops n listed →
    Region.lexHead md ops g l.length k listed = true → wpQuiet P ops C Lq l a →
    wpAnyQL P md ops C n (fun listed' a' => Region.seqB md ops g n listed' = true ∧ Lq a') l.length listed a
  | [], k, listed, a, _, hk, _, hB, h => by
    have : k = n := by simpa using hk
    subst this
    exact ⟨by simpa [Region.lexHead] using hB, h⟩
  | o :: l, k, listed, a, hl, hk, inv, hB, h => by
    have h0 : ops[k]? = some o := by simpa using (hl 0 (by simp)).symm
    simp only [List.length_cons, Region.lexHead, Bool.and_eq_true] at hB
    obtain ⟨⟨hr, hf⟩, hB'⟩ := hB
    have hkn : k < n := by simp only [List.length_cons] at hk; omega
    have hr' : k ∈ Region.ready md ops listed := by simpa using hr
    have hst : qOp P ops C k (wpQuiet P ops C Lq l) a := by unfold qOp; simp only [h0]; exact h
    obtain ⟨v, hy, hK⟩ := yieldsIn_of_qOp h0 hst
    exact wpAnyQL_first h0 (Region.noSelect_spec hsel) hs hc hn hkn (fun listed' a' hL => seqB_ready hL.1) l.length listed a inv (Region.free_spec h0 hf) hr' hy
      (wpAnyQL_lex hsel hs hc hn l (k + 1) _ _ (fun j hj => by have := hl (j + 1) (by simp; omega); simpa [Nat.add_assoc, Nat.add_comm 1 j] using this) (by simp only [List.length_cons] at hk; omega) (inv.set hr' hkn) hB' hK)

/-- A quiet head of n operations in any order, then a tail in its forced order. -/
theorem wp_region_quiet_tail {id : Nat} {Q : Exit → Act → World → Prop} {a : Act} {w : World} {l : List Oper} (n : Nat) (hm : P.follows .mixedOrders = true) (hB : Region.lexTailB .any l.toArray n = true) (hC : C { w with drawn := w.drawn + 1 })
    (h : wpQuiet P l.toArray C (fun a' => ∀ w', C w' → wpList P l.toArray Q (l.drop n) a' w') (l.take n) a) : (Code.region id l.toArray true).wp P Q a w := by
  simp only [Region.lexTailB, Bool.and_eq_true, decide_eq_true_eq] at hB
  obtain ⟨⟨⟨⟨hsel, hn⟩, hs⟩, hc⟩, hlex⟩ := hB
  have hn' : n < l.length := by simpa using hn
  have htl : (l.take n).length = n := by simp; omega
  have hdl : (l.drop n).length = l.toArray.size - n := by simp
  have inv0 : HeadInv .any l.toArray n (Array.replicate l.toArray.size false) :=
    ⟨by simp, fun j oj _ hl => (by rw [getD_replicate_false] at hl; cases hl), fun t _ ht => getD_in (by simpa using ht) (getD_replicate_false _ _)⟩
  have H := wpAnyQL_lex (md := .any) (g := l.toArray.size - n) hsel hs hc hn (l.take n) 0 _ a (fun j hj => by
    have hj' : j < n := by rw [htl] at hj; exact hj
    simp [hj']) (by simpa using htl) inv0 (by rw [htl]; exact hlex) h
  refine wp_region_any hm ?_
  have := wpAny_of_headQ (Q' := Q) (g := l.toArray.size - n) (fun listed a' w' hw' hL => by
    have := wpAny_of_seq (md := .any) (Q' := Q) (l.drop n) n listed a' w' (fun j => by simp [List.getElem?_drop]) (by rw [hdl]; exact hL.1) (hL.2 w' hw')
    rwa [hdl] at this) _ _ _ _ hC H
  rw [htl, show n + (l.toArray.size - n) = l.toArray.size by omega] at this
  exact this

/-- The same at the class 'w behind draws'. -/
theorem wp_region_quiet_tail_drew {id : Nat} {Q : Exit → Act → World → Prop} {a : Act} {w : World} {l : List Oper} (n : Nat) (hm : P.follows .mixedOrders = true) (hB : Region.lexTailB .any l.toArray n = true)
    (h : wpQuiet P l.toArray (fun w' => ∃ n, w' = w.drewN n) (fun a' => ∀ w', (∃ n, w' = w.drewN n) → wpList P l.toArray Q (l.drop n) a' w') (l.take n) a) : (Code.region id l.toArray true).wp P Q a w :=
  wp_region_quiet_tail (C := fun w' => ∃ n, w' = w.drewN n) n hm hB ⟨1, rfl⟩ h
/-- The same at the class 'w behind draws, with blocks behind it'. -/
theorem wp_region_quiet_tail_below {id : Nat} {Q : Exit → Act → World → Prop} {a : Act} {w : World} {l : List Oper} (n : Nat) (hm : P.follows .mixedOrders = true) (hB : Region.lexTailB .any l.toArray n = true)
    (h : wpQuiet P l.toArray (fun w' => ∃ p : Regrown, w' = grow (redrawn w p.d) p.os) (fun a' => ∀ w', (∃ p : Regrown, w' = grow (redrawn w p.d) p.os) → wpList P l.toArray Q (l.drop n) a' w') (l.take n) a) : (Code.region id l.toArray true).wp P Q a w :=
  wp_region_quiet_tail (C := fun w' => ∃ p : Regrown, w' = grow (redrawn w p.d) p.os) n hm hB ⟨⟨w.drawn + 1, #[]⟩, by rw [grow_empty]; rfl⟩ h
end
end Go.Proofs.YtnobempbcdkoaaaGreatDoor
namespace Go.Proofs.YtnobempbcdkoaaaGreatDoor
open Go.RowKit Go.Sort

def withinI (n lo hi : Int) : Bool := decide (lo ≤ n) && decide (n ≤ hi)
theorem ref02_within (n lo hi : Int) (w : World) :
    Calls Tryz.prog 184 #[.int .i64 n, .int .i64 lo, .int .i64 hi] w fun e w' => e = .returned (.bool (withinI n lo hi)) ∧ w = w' := by
  go_enter Tryz.func184, Tryz.ntmps184
  go_wp2
  · go_ret
    exact ⟨ret_bool (by unfold withinI; simp [*]), rfl⟩
  · go_ret
    exact ⟨ret_bool (by unfold withinI; simp; omega), rfl⟩

theorem within_ok (c0 c1 c2 c3 c4 c5 c6 : Int) : (withinI c0 1 4096 && withinI c1 16 256 && withinI c2 1 8 && withinI c3 1 64 && withinI c4 0 64 && withinI c5 1 256 && withinI c6 1 4096) = cfgOk c0 c1 c2 c3 c4 c5 c6 := by
  rw [Bool.eq_iff_iff, cfgOk_iff]; unfold withinI; simp only [Bool.and_eq_true, decide_eq_true_eq]; omega
set_option maxHeartbeats 2000000 in
theorem ref02_Right (c0 c1 c2 c3 c4 c5 c6 : Int) (w : World) :
    Calls Tryz.prog 177 #[.agg #[.int .i64 c0, .int .i64 c1, .int .i64 c2, .int .i64 c3, .int .i64 c4, .int .i64 c5, .int .i64 c6]] w fun e w' => e = .returned (.bool (cfgOk c0 c1 c2 c3 c4 c5 c6)) ∧ Below w.heap.size w w' := by
  cases h0 : withinI c0 1 4096
  · have HK : Hid (false = cfgOk c0 c1 c2 c3 c4 c5 c6) := by show false = _; rw [← within_ok]; simp [h0]
    go_enter Tryz.func177, Tryz.ntmps177
    go_wp2_with (go_at_call 184; refine (ref02_within _ _ _ _).mono ?_; rintro e w' ⟨rfl, rfl⟩)
    go_ret
    exact ⟨ret_bool HK.out, (Below.refl _ _).alloc (Nat.le_refl _) _⟩
  cases h1 : withinI c1 16 256
  · have HK : Hid (false = cfgOk c0 c1 c2 c3 c4 c5 c6) := by show false = _; rw [← within_ok]; simp [h0, h1]
    go_enter Tryz.func177, Tryz.ntmps177
    go_wp2_with (go_at_call 184; refine (ref02_within _ _ _ _).mono ?_; rintro e w' ⟨rfl, rfl⟩)
    go_ret
    exact ⟨ret_bool HK.out, (Below.refl _ _).alloc (Nat.le_refl _) _⟩
  cases h2 : withinI c2 1 8
  · have HK : Hid (false = cfgOk c0 c1 c2 c3 c4 c5 c6) := by show false = _; rw [← within_ok]; simp [h0, h1, h2]
    go_enter Tryz.func177, Tryz.ntmps177
    go_wp2_with (go_at_call 184; refine (ref02_within _ _ _ _).mono ?_; rintro e w' ⟨rfl, rfl⟩)
    go_ret
    exact ⟨ret_bool HK.out, (Below.refl _ _).alloc (Nat.le_refl _) _⟩
  cases h3 : withinI c3 1 64
  · have HK : Hid (false = cfgOk c0 c1 c2 c3 c4 c5 c6) := by show false = _; rw [← within_ok]; simp [h0, h1, h2, h3]
    go_enter Tryz.func177, Tryz.ntmps177
    go_wp2_with (go_at_call 184; refine (ref02_within _ _ _ _).mono ?_; rintro e w' ⟨rfl, rfl⟩)
    go_ret
    exact ⟨ret_bool HK.out, (Below.refl _ _).alloc (Nat.le_refl _) _⟩
  cases h4 : withinI c4 0 64
  · have HK : Hid (false = cfgOk c0 c1 c2 c3 c4 c5 c6) := by show false = _; rw [← within_ok]; simp [h0, h1, h2, h3, h4]
    go_enter Tryz.func177, Tryz.ntmps177
    go_wp2_with (go_at_call 184; refine (ref02_within _ _ _ _).mono ?_; rintro e w' ⟨rfl, rfl⟩)
    go_ret
    exact ⟨ret_bool HK.out, (Below.refl _ _).alloc (Nat.le_refl _) _⟩
  cases h5 : withinI c5 1 256
  · have HK : Hid (false = cfgOk c0 c1 c2 c3 c4 c5 c6) := by show false = _; rw [← within_ok]; simp [h0, h1, h2, h3, h4, h5]
    go_enter Tryz.func177, Tryz.ntmps177
    go_wp2_with (go_at_call 184; refine (ref02_within _ _ _ _).mono ?_; rintro e w' ⟨rfl, rfl⟩)
    go_ret
    exact ⟨ret_bool HK.out, (Below.refl _ _).alloc (Nat.le_refl _) _⟩
  cases h6 : withinI c6 1 4096
  · have HK : Hid (false = cfgOk c0 c1 c2 c3 c4 c5 c6) := by show false = _; rw [← within_ok]; simp [h0, h1, h2, h3, h4, h5, h6]
    go_enter Tryz.func177, Tryz.ntmps177
    go_wp2_with (go_at_call 184; refine (ref02_within _ _ _ _).mono ?_; rintro e w' ⟨rfl, rfl⟩)
    go_ret
    exact ⟨ret_bool HK.out, (Below.refl _ _).alloc (Nat.le_refl _) _⟩
  have HK : Hid (true = cfgOk c0 c1 c2 c3 c4 c5 c6) := by show true = _; rw [← within_ok]; simp [h0, h1, h2, h3, h4, h5, h6]
  go_enter Tryz.func177, Tryz.ntmps177
  go_wp2_with (go_at_call 184; refine (ref02_within _ _ _ _).mono ?_; rintro e w' ⟨rfl, rfl⟩)
  go_ret
  exact ⟨ret_bool HK.out, (Below.refl _ _).alloc (Nat.le_refl _) _⟩

theorem mul_bd {a b A B : Int} (h0 : 0 ≤ a) (h1 : a ≤ A) (h2 : 0 ≤ b) (h3 : b ≤ B) : 0 ≤ a * b ∧ a * b ≤ A * B :=
  ⟨Int.mul_nonneg h0 h2, Int.le_trans (Int.mul_le_mul_of_nonneg_right h1 h2) (Int.mul_le_mul_of_nonneg_left h3 (by omega))⟩
def cfgWords (c0 c1 : Int) : Int := c0 * c1
def cfgSlots (c0 c1 : Int) : Int := c0 * (c1 / 2)
def cfgOp (c1 c5 : Int) : Int := 64 + 4 * c5 + c1
def cfgAnswer (c3 c5 : Int) : Int := 16 + c3 * (c5 + 8) + 4 * c5
def ifOk (b : Bool) (n : Int) : Int := match b with | true => n | false => 0

set_option maxHeartbeats 1000000 in
theorem config_Words (c0 c1 c2 c3 c4 c5 c6 : Int) (w : World) (hL : Limits w) :
    Calls Tryz.prog 96 #[.agg #[.int .i64 c0, .int .i64 c1, .int .i64 c2, .int .i64 c3, .int .i64 c4, .int .i64 c5, .int .i64 c6]] w fun e w' => e = .returned (.int .i64 (ifOk (cfgOk c0 c1 c2 c3 c4 c5 c6) (cfgWords c0 c1))) ∧ Below w.heap.size w w' := by
  have HL := Lib.hid hL
  have hmf : ∀ (fn : Fn) (first cap : Array Value) (w : World), (Instr.makeFunc fn first cap).run Tryz.prog w = .ok (.func fn first cap) w := fun _ _ _ _ => rfl
  clear hL
  cases hk : cfgOk c0 c1 c2 c3 c4 c5 c6
  · have HK := Lib.hid hk
    clear hk
    go_enter Tryz.func96, Tryz.ntmps96
    go_wp2_with (first | (go_at_call 148; refine (config_Right c0 c1 c2 c3 c4 c5 c6 _ (HL.out.touch (S := nob) (by (repeat (first | with_reducible exact Touch.refl _ _ | with_reducible assumption | with_reducible apply Touch.alloc | with_reducible apply Touch.drewN | with_reducible apply Touch.drew | with_reducible refine Touch.setCell ?_ (.inr (by first | omega | (simp; done) | (simp; omega))) _))) (fun x => x))).mono ?_; rintro e w1 ⟨rfl, hb⟩; rw [HK.out]) | (go_at_call 137; go_in))
    go_ret
    exact ⟨rfl, Touch.below ((Touch.alloc (Touch.alloc (Touch.refl nob w) _) _).trans (Touch.of_below hb))⟩
  · have HK := Lib.hid hk
    obtain ⟨⟨u0, v0⟩, ⟨u1, v1⟩, ⟨u2, v2⟩, ⟨u3, v3⟩, ⟨u4, v4⟩, ⟨u5, v5⟩, u6, v6⟩ := cfgOk_iff.1 hk
    clear hk
    have ⟨m0, m1⟩ := mul_bd (a := c0) (b := c1) (A := 4096) (B := 256) (by omega) (by omega) (by omega) (by omega)
    go_enter Tryz.func96, Tryz.ntmps96
    go_wp2_with (first | (go_at_call 148; refine (config_Right c0 c1 c2 c3 c4 c5 c6 _ (HL.out.touch (S := nob) (by (repeat (first | with_reducible exact Touch.refl _ _ | with_reducible assumption | with_reducible apply Touch.alloc | with_reducible apply Touch.drewN | with_reducible apply Touch.drew | with_reducible refine Touch.setCell ?_ (.inr (by first | omega | (simp; done) | (simp; omega))) _))) (fun x => x))).mono ?_; rintro e w1 ⟨rfl, hb⟩; rw [HK.out]; obtain ⟨hc, hf⟩ := bcell hb) | (go_at_call 137; go_in) | (go_at_call 138; go_in))
    go_ret
    exact ⟨rfl, Touch.below ((Touch.alloc (Touch.alloc (Touch.refl nob w) _) _).trans (Touch.of_below hb))⟩

end Go.Proofs.YtnobempbcdkoaaaGreatDoor
namespace Go.Proofs.YtnobempbcdkoaaaGreatDoor
open Go.RowKit

theorem gSizes : Tryz.prog.globalNamed "dustpan/class.sizes" = some 2 := by kernel_rfl
theorem tSizes : (Tryz.prog.globals[2]?).map (·.type) = some 196 := by kernel_rfl
theorem sizes_of_cells {w : World} (h : ∀ i, w.cell? ⟨2, i, none⟩ = [Value.int .i64 2, .int .i64 4, .int .i64 8, .int .i64 16][i]?) : Sizes w := ⟨h 0, h 1, h 2, h 3⟩

theorem per_facts (x k : Int) (hk : isCls k = true) (h : 16 ≤ x) (h' : x ≤ 256) :
    1 ≤ perBlock x k ∧ perBlock x k ≤ 128 ∧ perBlock x k * clsSize k ≤ x ∧ x < (perBlock x k + 1) * clsSize k := by
  have hs := clsSize_lo hk
  have hs' := (clsSize_bd k).2
  obtain ⟨p0, p1, p2, p3⟩ := per_bd x (clsSize k) h h' hs hs'
  have hpb : perBlock x k = x / clsSize k := by unfold perBlock; rw [hk, show wordsOk x = true by unfold wordsOk; simp; omega]; rfl
  rw [← hpb] at p0 p1 p2 p3
  rw [Int.mul_comm] at p2 p3
  refine ⟨?_, p1, p2, by rw [Int.add_mul]; omega⟩
  rcases (show perBlock x k < 1 ∨ 1 ≤ perBlock x k by omega) with h | h
  · have : perBlock x k = 0 := by omega
    rw [this] at p3; omega
  · exact h

/-- A config's box: seven cells. -/
abbrev CfgRow (c0 c1 c2 c3 c4 c5 c6 : Int) : Array Value := #[.int .i64 c0, .int .i64 c1, .int .i64 c2, .int .i64 c3, .int .i64 c4, .int .i64 c5, .int .i64 c6]
theorem cfg_box {W : World} {b : Nat} {t : TypeId} {c0 c1 c2 c3 c4 c5 c6 : Int} (h : W.heap[b]? = some (Obj.cells (CfgRow c0 c1 c2 c3 c4 c5 c6) t)) {w' : World} (ht : Touch nob W w') :
    w'.cell? ⟨b, 0, none⟩ = some (.int .i64 c0) ∧ w'.cell? ⟨b, 1, none⟩ = some (.int .i64 c1) ∧ w'.cell? ⟨b, 2, none⟩ = some (.int .i64 c2) ∧ w'.cell? ⟨b, 3, none⟩ = some (.int .i64 c3) ∧ w'.cell? ⟨b, 4, none⟩ = some (.int .i64 c4) ∧ w'.cell? ⟨b, 5, none⟩ = some (.int .i64 c5) ∧ w'.cell? ⟨b, 6, none⟩ = some (.int .i64 c6) := by
  have hb := (Array.getElem?_eq_some_iff.1 h).1
  have e := (ht.block b hb (fun x => x)).trans h
  simp [World.cell?, e]

end Go.Proofs.YtnobempbcdkoaaaGreatDoor
namespace Go.Proofs.YtnobempbcdkoaaaGreatDoor
open Go.RowKit Go.Sort

abbrev CfgV (c0 c1 c2 c3 c4 c5 c6 : Int) : Value := .agg (CfgRow c0 c1 c2 c3 c4 c5 c6)
abbrev PlV (b s x : Int) : Value := .agg #[.int .i64 b, .int .i64 s, .int .i64 x]

theorem Sizes.touch {S : Nat → Prop} {w w' : World} (h : Sizes w) (ht : Touch S w w') (hs : ¬ S 2) : Sizes w' := by
  have hg : 2 < w.heap.size := by
    obtain ⟨o, ho, _⟩ := cells_of_cell h.1
    exact (Array.getElem?_eq_some_iff.1 ho).1
  exact ⟨(ht.cell hg hs).trans h.1, (ht.cell hg hs).trans h.2.1, (ht.cell hg hs).trans h.2.2.1, (ht.cell hg hs).trans h.2.2.2⟩

def blkOk (c0 c1 c2 c3 c4 c5 c6 a : Int) : Bool := cfgOk c0 c1 c2 c3 c4 c5 c6 && (decide (1 ≤ a) && decide (a ≤ c0 * c1))
theorem blkOk_iff {c0 c1 c2 c3 c4 c5 c6 a : Int} : blkOk c0 c1 c2 c3 c4 c5 c6 a = true ↔ cfgOk c0 c1 c2 c3 c4 c5 c6 = true ∧ 1 ≤ a ∧ a ≤ c0 * c1 := by unfold blkOk; simp
def ifB (b : Bool) (n : Int) : Int := match b with | true => n | false => 0

set_option maxHeartbeats 2000000 in
theorem addr_Block (c0 c1 c2 c3 c4 c5 c6 a : Int) (w : World) (hL : Limits w) :
    Calls Tryz.prog 162 #[CfgV c0 c1 c2 c3 c4 c5 c6, .int .i64 a] w fun e w' => e = .returned (.tuple #[.int .i64 (ifB (blkOk c0 c1 c2 c3 c4 c5 c6 a) ((a - 1) / c1)), .bool (blkOk c0 c1 c2 c3 c4 c5 c6 a)]) ∧ Below w.heap.size w w' := by
  have HL := Lib.hid hL
  clear hL
  cases hk : blkOk c0 c1 c2 c3 c4 c5 c6 a
  · cases hc : cfgOk c0 c1 c2 c3 c4 c5 c6
    · have HC := Lib.hid hc
      clear hc hk
      go_enter Tryz.func162, Tryz.ntmps162
      go_wp2_with (go_at_call 96; refine (config_Words c0 c1 c2 c3 c4 c5 c6 _ (HL.out.touch (S := nob) (by (repeat (first | with_reducible exact Touch.refl _ _ | with_reducible assumption | with_reducible apply Touch.alloc | with_reducible apply Touch.drewN | with_reducible apply Touch.drew | with_reducible refine Touch.setCell ?_ (.inr (by first | omega | (simp; done) | (simp; omega))) _))) (fun x => x))).mono ?_; rintro e w1 ⟨rfl, hb⟩; rw [HC.out]; simp only [ifOk]; obtain ⟨hcc, hff⟩ := bcell hb)
      · go_ret2
        exact ⟨rfl, Touch.below (Touch.trans (by (repeat (first | with_reducible exact Touch.refl _ _ | with_reducible assumption | with_reducible apply Touch.alloc | with_reducible apply Touch.drewN | with_reducible apply Touch.drew | with_reducible refine Touch.setCell ?_ (.inr (by first | omega | (simp; done) | (simp; omega))) _))) (Touch.of_below hb))⟩
      · go_ret2
        exact ⟨rfl, by apply Touch.below; (repeat (first | with_reducible exact Touch.refl _ _ | with_reducible assumption | with_reducible apply Touch.alloc | with_reducible apply Touch.drewN | with_reducible apply Touch.drew | with_reducible refine Touch.setCell ?_ (.inr (by first | omega | (simp; done) | (simp; omega))) _))⟩
    · have HC := Lib.hid hc
      by_cases h1 : a < 1
      · clear hc hk
        go_enter Tryz.func162, Tryz.ntmps162
        go_wp2_with fail
        go_ret2
        exact ⟨rfl, by apply Touch.below; (repeat (first | with_reducible exact Touch.refl _ _ | with_reducible assumption | with_reducible apply Touch.alloc | with_reducible apply Touch.drewN | with_reducible apply Touch.drew | with_reducible refine Touch.setCell ?_ (.inr (by first | omega | (simp; done) | (simp; omega))) _))⟩
      · have h2 : c0 * c1 < a := by unfold blkOk at hk; rw [hc] at hk; simp at hk; omega
        clear hc hk
        go_enter Tryz.func162, Tryz.ntmps162
        go_wp2_with (go_at_call 96; refine (config_Words c0 c1 c2 c3 c4 c5 c6 _ (HL.out.touch (S := nob) (by (repeat (first | with_reducible exact Touch.refl _ _ | with_reducible assumption | with_reducible apply Touch.alloc | with_reducible apply Touch.drewN | with_reducible apply Touch.drew | with_reducible refine Touch.setCell ?_ (.inr (by first | omega | (simp; done) | (simp; omega))) _))) (fun x => x))).mono ?_; rintro e w1 ⟨rfl, hb⟩; rw [HC.out]; simp only [ifOk, cfgWords]; obtain ⟨hcc, hff⟩ := bcell hb)
        go_ret2
        exact ⟨rfl, Touch.below (Touch.trans (by (repeat (first | with_reducible exact Touch.refl _ _ | with_reducible assumption | with_reducible apply Touch.alloc | with_reducible apply Touch.drewN | with_reducible apply Touch.drew | with_reducible refine Touch.setCell ?_ (.inr (by first | omega | (simp; done) | (simp; omega))) _))) (Touch.of_below hb))⟩
  · obtain ⟨hc, h1, h2⟩ := blkOk_iff.1 hk
    have HC := Lib.hid hc
    obtain ⟨⟨u0, v0⟩, ⟨u1, v1⟩, _⟩ := cfgOk_iff.1 hc
    have ⟨m0, m1⟩ := mul_bd (a := c0) (b := c1) (A := 4096) (B := 256) (by omega) (by omega) (by omega) (by omega)
    clear hc hk
    have hq : Int.tdiv (a - 1) c1 = (a - 1) / c1 := Int.tdiv_eq_ediv_of_nonneg (by omega)
    have q0 : 0 ≤ (a - 1) / c1 := Int.ediv_nonneg (by omega) (by omega)
    have q1 : (a - 1) / c1 ≤ a - 1 := Int.ediv_le_self _ (by omega)
    go_enter Tryz.func162, Tryz.ntmps162
    go_wp2_with (go_at_call 96; refine (config_Words c0 c1 c2 c3 c4 c5 c6 _ (HL.out.touch (S := nob) (by (repeat (first | with_reducible exact Touch.refl _ _ | with_reducible assumption | with_reducible apply Touch.alloc | with_reducible apply Touch.drewN | with_reducible apply Touch.drew | with_reducible refine Touch.setCell ?_ (.inr (by first | omega | (simp; done) | (simp; omega))) _))) (fun x => x))).mono ?_; rintro e w1 ⟨rfl, hb⟩; rw [HC.out]; simp only [ifOk, cfgWords]; obtain ⟨hcc, hff⟩ := bcell hb)
    go_ret2
    exact ⟨rfl, Touch.below (Touch.trans (by (repeat (first | with_reducible exact Touch.refl _ _ | with_reducible assumption | with_reducible apply Touch.alloc | with_reducible apply Touch.drewN | with_reducible apply Touch.drew | with_reducible refine Touch.setCell ?_ (.inr (by first | omega | (simp; done) | (simp; omega))) _))) (Touch.of_below hb))⟩

def plOk (c0 c1 c2 c3 c4 c5 c6 k b s x : Int) : Bool := cfgOk c0 c1 c2 c3 c4 c5 c6 && isCls k && (decide (0 ≤ b) && decide (b < c0)) && (decide (0 ≤ s) && decide (s < perBlock c1 k)) && (decide (0 ≤ x) && decide (x < clsSize k))
def plA (c1 k b s x : Int) : Int := 1 + b * c1 + s * clsSize k + x
theorem plOk_iff {c0 c1 c2 c3 c4 c5 c6 k b s x : Int} : plOk c0 c1 c2 c3 c4 c5 c6 k b s x = true ↔ cfgOk c0 c1 c2 c3 c4 c5 c6 = true ∧ isCls k = true ∧ (0 ≤ b ∧ b < c0) ∧ (0 ≤ s ∧ s < perBlock c1 k) ∧ 0 ≤ x ∧ x < clsSize k := by
  unfold plOk; simp only [Bool.and_eq_true, decide_eq_true_eq]
  constructor
  · rintro ⟨⟨⟨⟨a, b⟩, c⟩, d⟩, e⟩; exact ⟨a, b, c, d, e⟩
  · rintro ⟨a, b, c, d, e⟩; exact ⟨⟨⟨⟨a, b⟩, c⟩, d⟩, e⟩

/-- Where a place is, if there is one: bounds. -/
theorem pl_bd {c0 c1 c2 c3 c4 c5 c6 k b s x : Int} (h : plOk c0 c1 c2 c3 c4 c5 c6 k b s x = true) : (0 ≤ b * c1 ∧ b * c1 + c1 ≤ c0 * c1) ∧ (0 ≤ s * clsSize k ∧ s * clsSize k + clsSize k ≤ c1) ∧ c0 * c1 ≤ 1048576 := by
  obtain ⟨hc, hk, ⟨b0, b1⟩, ⟨s0, s1⟩, x0, x1⟩ := plOk_iff.1 h
  obtain ⟨⟨u0, v0⟩, ⟨u1, v1⟩, _⟩ := cfgOk_iff.1 hc
  obtain ⟨p0, p1, p2, p3⟩ := per_facts c1 k hk u1 v1
  have q0 := clsSize_lo hk
  have ⟨m0, m1⟩ := mul_bd (a := c0) (b := c1) (A := 4096) (B := 256) (by omega) (by omega) (by omega) (by omega)
  have e1 : (b + 1) * c1 ≤ c0 * c1 := Int.mul_le_mul_of_nonneg_right (by omega) (by omega)
  have e2 : (s + 1) * clsSize k ≤ perBlock c1 k * clsSize k := Int.mul_le_mul_of_nonneg_right (by omega) (by omega)
  rw [Int.add_mul, Int.one_mul] at e1 e2
  exact ⟨⟨Int.mul_nonneg b0 (by omega), e1⟩, ⟨Int.mul_nonneg s0 (by omega), by omega⟩, m1⟩

set_option maxHeartbeats 4000000 in
theorem addr_Of (c0 c1 c2 c3 c4 c5 c6 k b s x : Int) (w : World) (hL : Limits w) (hS : Sizes w) :
    Calls Tryz.prog 189 #[CfgV c0 c1 c2 c3 c4 c5 c6, .int .i64 k, PlV b s x] w fun e w' => e = .returned (.tuple #[.int .i64 (ifB (plOk c0 c1 c2 c3 c4 c5 c6 k b s x) (plA c1 k b s x)), .bool (plOk c0 c1 c2 c3 c4 c5 c6 k b s x)]) ∧ Below w.heap.size w w' := by
  have HL := Lib.hid hL
  have HZ := Lib.hid hS
  clear hL hS
  cases hk : plOk c0 c1 c2 c3 c4 c5 c6 k b s x
  · cases hc : cfgOk c0 c1 c2 c3 c4 c5 c6
    · have HC := Lib.hid hc
      clear hc hk
      go_enter Tryz.func189, Tryz.ntmps189
      go_wp2_with (go_at_call 148; refine (config_Right c0 c1 c2 c3 c4 c5 c6 _ (HL.out.touch (S := nob) (by (repeat (first | with_reducible exact Touch.refl _ _ | with_reducible assumption | with_reducible apply Touch.alloc | with_reducible apply Touch.drewN | with_reducible apply Touch.drew | with_reducible refine Touch.setCell ?_ (.inr (by first | omega | (simp; done) | (simp; omega))) _))) (fun x => x))).mono ?_; rintro e w1 ⟨rfl, hb⟩; rw [HC.out]; obtain ⟨hcc, hff⟩ := bcell hb)
      go_ret2
      exact ⟨rfl, Touch.below (Touch.trans (by (repeat (first | with_reducible exact Touch.refl _ _ | with_reducible assumption | with_reducible apply Touch.alloc | with_reducible apply Touch.drewN | with_reducible apply Touch.drew | with_reducible refine Touch.setCell ?_ (.inr (by first | omega | (simp; done) | (simp; omega))) _))) (Touch.of_below hb))⟩
    cases hi : isCls k
    · have HC := Lib.hid hc
      have HI := Lib.hid hi
      clear hc hk hi
      go_enter Tryz.func189, Tryz.ntmps189
      go_wp2_with (first | (go_at_call 148; refine (config_Right c0 c1 c2 c3 c4 c5 c6 _ (HL.out.touch (S := nob) (by (repeat (first | with_reducible exact Touch.refl _ _ | with_reducible assumption | with_reducible apply Touch.alloc | with_reducible apply Touch.drewN | with_reducible apply Touch.drew | with_reducible refine Touch.setCell ?_ (.inr (by first | omega | (simp; done) | (simp; omega))) _))) (fun x => x))).mono ?_; rintro e w1 ⟨rfl, hb⟩; rw [HC.out]; obtain ⟨hcc, hff⟩ := bcell hb) | (go_at_call 175; refine (class_Is _ _).mono ?_; rintro e w' ⟨rfl, rfl⟩; rw [HI.out]))
      go_ret2
      exact ⟨rfl, Touch.below (Touch.trans (by (repeat (first | with_reducible exact Touch.refl _ _ | with_reducible assumption | with_reducible apply Touch.alloc | with_reducible apply Touch.drewN | with_reducible apply Touch.drew | with_reducible refine Touch.setCell ?_ (.inr (by first | omega | (simp; done) | (simp; omega))) _))) (Touch.of_below hb))⟩
    have HC := Lib.hid hc
    have HI := Lib.hid hi
    rcases (show b < 0 ∨ (0 ≤ b ∧ c0 ≤ b) ∨ (0 ≤ b ∧ b < c0 ∧ s < 0) ∨ (0 ≤ b ∧ b < c0 ∧ 0 ≤ s ∧ perBlock c1 k ≤ s) ∨ (0 ≤ b ∧ b < c0 ∧ 0 ≤ s ∧ s < perBlock c1 k ∧ x < 0) ∨ (0 ≤ b ∧ b < c0 ∧ 0 ≤ s ∧ s < perBlock c1 k ∧ 0 ≤ x ∧ clsSize k ≤ x) by
      have hx : ¬ ((0 ≤ b ∧ b < c0) ∧ (0 ≤ s ∧ s < perBlock c1 k) ∧ 0 ≤ x ∧ x < clsSize k) := fun h => by
        have := plOk_iff.2 ⟨hc, hi, h⟩
        rw [hk] at this; exact absurd this (by decide)
      omega) with h1 | ⟨h1, h2⟩ | ⟨h1, h2, h3⟩ | ⟨h1, h2, h3, h4⟩ | ⟨h1, h2, h3, h4, h5⟩ | ⟨h1, h2, h3, h4, h5, h6⟩
    all_goals
      clear hc hk hi
      go_enter Tryz.func189, Tryz.ntmps189
      go_wp2_with (first | (go_at_call 148; refine (config_Right c0 c1 c2 c3 c4 c5 c6 _ (HL.out.touch (S := nob) (by (repeat (first | with_reducible exact Touch.refl _ _ | with_reducible assumption | with_reducible apply Touch.alloc | with_reducible apply Touch.drewN | with_reducible apply Touch.drew | with_reducible refine Touch.setCell ?_ (.inr (by first | omega | (simp; done) | (simp; omega))) _))) (fun x => x))).mono ?_; rintro e w1 ⟨rfl, hb⟩; rw [HC.out]; obtain ⟨hcc, hff⟩ := bcell hb) | (go_at_call 175; refine (class_Is _ _).mono ?_; rintro e w2 ⟨rfl, rfl⟩; rw [HI.out]))
    · go_ret2
      exact ⟨rfl, Touch.below (Touch.trans (by (repeat (first | with_reducible exact Touch.refl _ _ | with_reducible assumption | with_reducible apply Touch.alloc | with_reducible apply Touch.drewN | with_reducible apply Touch.drew | with_reducible refine Touch.setCell ?_ (.inr (by first | omega | (simp; done) | (simp; omega))) _))) (Touch.of_below hb))⟩
    · go_ret2
      exact ⟨rfl, Touch.below (Touch.trans (by (repeat (first | with_reducible exact Touch.refl _ _ | with_reducible assumption | with_reducible apply Touch.alloc | with_reducible apply Touch.drewN | with_reducible apply Touch.drew | with_reducible refine Touch.setCell ?_ (.inr (by first | omega | (simp; done) | (simp; omega))) _))) (Touch.of_below hb))⟩
    all_goals
      have HS1 : Hid (∀ n, Sizes (w1.drewN n)) := fun n => HZ.out.touch (S := nob) ((Touch.trans (by (repeat (first | with_reducible exact Touch.refl _ _ | with_reducible assumption | with_reducible apply Touch.alloc | with_reducible apply Touch.drewN | with_reducible apply Touch.drew | with_reducible refine Touch.setCell ?_ (.inr (by first | omega | (simp; done) | (simp; omega))) _))) (Touch.of_below hb)).drewN n) (fun h => h)
      go_quiet (first | (go_at_call 178; exact Calls.quiet_of_same ((class_PerBlock _ _ _ (HS1.out _)).mono fun _ _ h => ⟨h.1, h.2.symm⟩)) | (go_at_call 170; exact Calls.quiet_of_same ((class_Size _ _ (HS1.out _)).mono fun _ _ h => ⟨h.1, h.2.symm⟩)))
      go_wp2
      try (
        obtain ⟨w2, hw2⟩ : ∃ z, z = w1.drewN nq := ⟨_, rfl⟩
        have ht2 : Touch nob w1 w2 := by rw [hw2]; exact (Touch.refl _ _).drewN _
        have hcc2 : ∀ b o, w2.cell? ⟨b, o, none⟩ = w1.cell? ⟨b, o, none⟩ := by rw [hw2]; exact fun _ _ => rfl
        rw [← hw2]
        have HS2 : Hid (∀ n, Sizes (w2.drewN n)) := fun n => (HS1.out 0).touch (S := nob) (ht2.drewN n) (fun h => h)
        clear hw2
        go_quiet (first | (go_at_call 178; exact Calls.quiet_of_same ((class_PerBlock _ _ _ (HS2.out _)).mono fun _ _ h => ⟨h.1, h.2.symm⟩)) | (go_at_call 170; exact Calls.quiet_of_same ((class_Size _ _ (HS2.out _)).mono fun _ _ h => ⟨h.1, h.2.symm⟩)))
        go_wp2)
      go_ret2
      exact ⟨rfl, Touch.below (Touch.trans (Touch.trans (by (repeat (first | with_reducible exact Touch.refl _ _ | with_reducible assumption | with_reducible apply Touch.alloc | with_reducible apply Touch.drewN | with_reducible apply Touch.drew | with_reducible refine Touch.setCell ?_ (.inr (by first | omega | (simp; done) | (simp; omega))) _))) (Touch.of_below hb)) (by (repeat (first | with_reducible exact Touch.refl _ _ | with_reducible assumption | with_reducible apply Touch.alloc | with_reducible apply Touch.drewN | with_reducible apply Touch.drew | with_reducible refine Touch.setCell ?_ (.inr (by first | omega | (simp; done) | (simp; omega))) _))))⟩
  · obtain ⟨hc, hi, ⟨b0, b1⟩, ⟨s0, s1⟩, x0, x1⟩ := plOk_iff.1 hk
    have HC := Lib.hid hc
    have HI := Lib.hid hi
    obtain ⟨⟨m0, m1⟩, ⟨m2, m3⟩, m4⟩ := pl_bd hk
    obtain ⟨⟨u0, v0⟩, ⟨u1, v1⟩, _⟩ := cfgOk_iff.1 hc
    have q1 := (clsSize_bd k).2
    clear hc hi hk
    go_enter Tryz.func189, Tryz.ntmps189
    go_wp2_with (first | (go_at_call 148; refine (config_Right c0 c1 c2 c3 c4 c5 c6 _ (HL.out.touch (S := nob) (by (repeat (first | with_reducible exact Touch.refl _ _ | with_reducible assumption | with_reducible apply Touch.alloc | with_reducible apply Touch.drewN | with_reducible apply Touch.drew | with_reducible refine Touch.setCell ?_ (.inr (by first | omega | (simp; done) | (simp; omega))) _))) (fun x => x))).mono ?_; rintro e w1 ⟨rfl, hb⟩; rw [HC.out]; obtain ⟨hcc, hff⟩ := bcell hb) | (go_at_call 175; refine (class_Is _ _).mono ?_; rintro e w2 ⟨rfl, rfl⟩; rw [HI.out]))
    have HS1 : Hid (∀ n, Sizes (w1.drewN n)) := fun n => HZ.out.touch (S := nob) ((Touch.trans (by (repeat (first | with_reducible exact Touch.refl _ _ | with_reducible assumption | with_reducible apply Touch.alloc | with_reducible apply Touch.drewN | with_reducible apply Touch.drew | with_reducible refine Touch.setCell ?_ (.inr (by first | omega | (simp; done) | (simp; omega))) _))) (Touch.of_below hb)).drewN n) (fun h => h)
    go_quiet (first | (go_at_call 178; exact Calls.quiet_of_same ((class_PerBlock _ _ _ (HS1.out _)).mono fun _ _ h => ⟨h.1, h.2.symm⟩)) | (go_at_call 170; exact Calls.quiet_of_same ((class_Size _ _ (HS1.out _)).mono fun _ _ h => ⟨h.1, h.2.symm⟩)))
    go_wp2
    obtain ⟨w2, hw2⟩ : ∃ z, z = w1.drewN nq := ⟨_, rfl⟩
    have ht2 : Touch nob w1 w2 := by rw [hw2]; exact (Touch.refl _ _).drewN _
    have hcc2 : ∀ b o, w2.cell? ⟨b, o, none⟩ = w1.cell? ⟨b, o, none⟩ := by rw [hw2]; exact fun _ _ => rfl
    rw [← hw2]
    have HS2 : Hid (∀ n, Sizes (w2.drewN n)) := fun n => (HS1.out 0).touch (S := nob) (ht2.drewN n) (fun h => h)
    clear hw2
    go_quiet (first | (go_at_call 178; exact Calls.quiet_of_same ((class_PerBlock _ _ _ (HS2.out _)).mono fun _ _ h => ⟨h.1, h.2.symm⟩)) | (go_at_call 170; exact Calls.quiet_of_same ((class_Size _ _ (HS2.out _)).mono fun _ _ h => ⟨h.1, h.2.symm⟩)))
    go_wp2
    obtain ⟨w3, hw3⟩ : ∃ z, z = w2.drewN nq := ⟨_, rfl⟩
    have ht3 : Touch nob w2 w3 := by rw [hw3]; exact (Touch.refl _ _).drewN _
    have hcc3 : ∀ b o, w3.cell? ⟨b, o, none⟩ = w2.cell? ⟨b, o, none⟩ := by rw [hw3]; exact fun _ _ => rfl
    rw [← hw3]
    have HS3 : Hid (∀ n, Sizes (w3.drewN n)) := fun n => (HS2.out 0).touch (S := nob) (ht3.drewN n) (fun h => h)
    clear hw3
    go_quiet (first | (go_at_call 178; exact Calls.quiet_of_same ((class_PerBlock _ _ _ (HS3.out _)).mono fun _ _ h => ⟨h.1, h.2.symm⟩)) | (go_at_call 170; exact Calls.quiet_of_same ((class_Size _ _ (HS3.out _)).mono fun _ _ h => ⟨h.1, h.2.symm⟩)))
    go_wp2
    go_ret2
    exact ⟨rfl, Touch.below ((((Touch.trans (by (repeat (first | with_reducible exact Touch.refl _ _ | with_reducible assumption | with_reducible apply Touch.alloc | with_reducible apply Touch.drewN | with_reducible apply Touch.drew | with_reducible refine Touch.setCell ?_ (.inr (by first | omega | (simp; done) | (simp; omega))) _))) (Touch.of_below hb)).trans ht2).trans ht3).drewN nq)⟩
end Go.Proofs.YtnobempbcdkoaaaGreatDoor
namespace Go.Proofs.YtnobempbcdkoaaaGreatDoor
open Go.RowKit Go.Sort

set_option maxHeartbeats 1000000 in
theorem addr_Slot (c0 c1 c2 c3 c4 c5 c6 k b s : Int) (w : World) (hL : Limits w) (hS : Sizes w) :
    Calls Tryz.prog 187 #[CfgV c0 c1 c2 c3 c4 c5 c6, .int .i64 k, .int .i64 b, .int .i64 s] w fun e w' => e = .returned (.int .i64 (ifB (plOk c0 c1 c2 c3 c4 c5 c6 k b s 0) (plA c1 k b s 0))) ∧ Below w.heap.size w w' := by
  have HL := Lib.hid hL
  have HZ := Lib.hid hS
  clear hL hS
  go_enter Tryz.func187, Tryz.ntmps187
  go_wp2_with (go_at_call 189; refine (addr_Of c0 c1 c2 c3 c4 c5 c6 k b s 0 _ (HL.out.touch (S := nob) (by (repeat (first | with_reducible exact Touch.refl _ _ | with_reducible assumption | with_reducible apply Touch.alloc | with_reducible apply Touch.drewN | with_reducible apply Touch.drew | with_reducible refine Touch.setCell ?_ (.inr (by first | omega | (simp; done) | (simp; omega))) _))) (fun x => x)) (HZ.out.touch (S := nob) (by (repeat (first | with_reducible exact Touch.refl _ _ | with_reducible assumption | with_reducible apply Touch.alloc | with_reducible apply Touch.drewN | with_reducible apply Touch.drew | with_reducible refine Touch.setCell ?_ (.inr (by first | omega | (simp; done) | (simp; omega))) _))) (fun x => x))).mono ?_; rintro e w1 ⟨rfl, hb⟩)
  go_ret
  exact ⟨rfl, Touch.below (Touch.trans (by (repeat (first | with_reducible exact Touch.refl _ _ | with_reducible assumption | with_reducible apply Touch.alloc | with_reducible apply Touch.drewN | with_reducible apply Touch.drew | with_reducible refine Touch.setCell ?_ (.inr (by first | omega | (simp; done) | (simp; omega))) _))) (Touch.of_below hb))⟩

def fdOk (c0 c1 c2 c3 c4 c5 c6 k a : Int) : Bool := blkOk c0 c1 c2 c3 c4 c5 c6 a && (isCls k && decide ((a - 1 - (a - 1) / c1 * c1) / clsSize k < perBlock c1 k))
def fdV (c1 k a : Int) : Bool → Value
  | true => PlV ((a - 1) / c1) ((a - 1 - (a - 1) / c1 * c1) / clsSize k) ((a - 1 - (a - 1) / c1 * c1) % clsSize k)
  | false => PlV 0 0 0
theorem fdOk_iff {c0 c1 c2 c3 c4 c5 c6 k a : Int} : fdOk c0 c1 c2 c3 c4 c5 c6 k a = true ↔ blkOk c0 c1 c2 c3 c4 c5 c6 a = true ∧ isCls k = true ∧ (a - 1 - (a - 1) / c1 * c1) / clsSize k < perBlock c1 k := by unfold fdOk; simp

set_option maxHeartbeats 4000000 in
theorem addr_Find (c0 c1 c2 c3 c4 c5 c6 k a : Int) (w : World) (hL : Limits w) (hS : Sizes w) :
    Calls Tryz.prog 164 #[CfgV c0 c1 c2 c3 c4 c5 c6, .int .i64 k, .int .i64 a] w fun e w' => e = .returned (.tuple #[fdV c1 k a (fdOk c0 c1 c2 c3 c4 c5 c6 k a), .bool (fdOk c0 c1 c2 c3 c4 c5 c6 k a)]) ∧ Below w.heap.size w w' := by
  have HL := Lib.hid hL
  have HZ := Lib.hid hS
  clear hL hS
  cases hk : blkOk c0 c1 c2 c3 c4 c5 c6 a
  · have hF : fdOk c0 c1 c2 c3 c4 c5 c6 k a = false := by unfold fdOk; rw [hk]; rfl
    rw [hF]
    have HK := Lib.hid hk
    clear hk hF
    go_enter Tryz.func164, Tryz.ntmps164
    go_wp2_with (go_at_call 162; refine (addr_Block c0 c1 c2 c3 c4 c5 c6 a _ (HL.out.touch (S := nob) (by (repeat (first | with_reducible exact Touch.refl _ _ | with_reducible assumption | with_reducible apply Touch.alloc | with_reducible apply Touch.drewN | with_reducible apply Touch.drew | with_reducible refine Touch.setCell ?_ (.inr (by first | omega | (simp; done) | (simp; omega))) _))) (fun x => x))).mono ?_; rintro e w1 ⟨rfl, hb⟩; rw [HK.out]; simp only [ifB]; obtain ⟨hcc, hff⟩ := bcell hb)
    have B1 : w1.heap[w.heap.size + 1]? = some (Obj.cells #[.int .i64 0, .int .i64 0, .int .i64 0] 212) := (hb.block (w.heap.size + 1) (by simp only [World.size_alloc]; omega)).trans (alloc2_1 w _ _)
    have y0 : w1.cell? ⟨w.heap.size + 1, 0, none⟩ = some (.int .i64 0) := by simp [World.cell?, B1]
    have y1 : w1.cell? ⟨w.heap.size + 1, 1, none⟩ = some (.int .i64 0) := by simp [World.cell?, B1]
    have y2 : w1.cell? ⟨w.heap.size + 1, 2, none⟩ = some (.int .i64 0) := by simp [World.cell?, B1]
    refine bodyPost_ret (v := .tuple #[PlV 0 0 0, .bool false]) (by simp [results, Tryz.results164, go_sem, y0, y1, y2]) rfl ⟨rfl, Touch.below ?_⟩
    have HT := Lib.hid (Touch.trans (S := nob) (show Touch nob w _ from (((Touch.refl nob w).alloc _).alloc _)) (Touch.of_below hb))
    repeat (first | with_reducible exact HT.out | refine Touch.setCell ?_ (.inr (by simp)) _)
  cases hi : isCls k
  · have hF : fdOk c0 c1 c2 c3 c4 c5 c6 k a = false := by unfold fdOk; rw [hk, hi]; rfl
    rw [hF]
    have HK := Lib.hid hk
    have HI := Lib.hid hi
    clear hk hF hi
    go_enter Tryz.func164, Tryz.ntmps164
    go_wp2_with (first | (go_at_call 162; refine (addr_Block c0 c1 c2 c3 c4 c5 c6 a _ (HL.out.touch (S := nob) (by (repeat (first | with_reducible exact Touch.refl _ _ | with_reducible assumption | with_reducible apply Touch.alloc | with_reducible apply Touch.drewN | with_reducible apply Touch.drew | with_reducible refine Touch.setCell ?_ (.inr (by first | omega | (simp; done) | (simp; omega))) _))) (fun x => x))).mono ?_; rintro e w1 ⟨rfl, hb⟩; rw [HK.out]; simp only [ifB]; obtain ⟨hcc, hff⟩ := bcell hb) | (go_at_call 175; refine (class_Is _ _).mono ?_; rintro e w2 ⟨rfl, rfl⟩; rw [HI.out]))
    have B1 : w1.heap[w.heap.size + 1]? = some (Obj.cells #[.int .i64 0, .int .i64 0, .int .i64 0] 212) := (hb.block (w.heap.size + 1) (by simp only [World.size_alloc]; omega)).trans (alloc2_1 w _ _)
    have y0 : w1.cell? ⟨w.heap.size + 1, 0, none⟩ = some (.int .i64 0) := by simp [World.cell?, B1]
    have y1 : w1.cell? ⟨w.heap.size + 1, 1, none⟩ = some (.int .i64 0) := by simp [World.cell?, B1]
    have y2 : w1.cell? ⟨w.heap.size + 1, 2, none⟩ = some (.int .i64 0) := by simp [World.cell?, B1]
    refine bodyPost_ret (v := .tuple #[PlV 0 0 0, .bool false]) (by simp [results, Tryz.results164, go_sem, y0, y1, y2]) rfl ⟨rfl, Touch.below ?_⟩
    have HT := Lib.hid (Touch.trans (S := nob) (show Touch nob w _ from (((Touch.refl nob w).alloc _).alloc _)) (Touch.of_below hb))
    repeat (first | with_reducible exact HT.out | refine Touch.setCell ?_ (.inr (by simp)) _)
  have HK := Lib.hid hk
  have HI := Lib.hid hi
  obtain ⟨hc, a0, a1⟩ := blkOk_iff.1 hk
  obtain ⟨⟨u0, v0⟩, ⟨u1, v1⟩, _⟩ := cfgOk_iff.1 hc
  have s0 := clsSize_lo hi
  have s1 := (clsSize_bd k).2
  have ⟨m0, m1⟩ := mul_bd (a := c0) (b := c1) (A := 4096) (B := 256) (by omega) (by omega) (by omega) (by omega)
  have q0 : 0 ≤ (a - 1) / c1 := Int.ediv_nonneg (by omega) (by omega)
  have q1 : (a - 1) / c1 ≤ a - 1 := Int.ediv_le_self _ (by omega)
  have q2 : 0 ≤ (a - 1) / c1 * c1 := Int.mul_nonneg q0 (by omega)
  have q3 : (a - 1) / c1 * c1 ≤ a - 1 := Int.ediv_mul_le _ (by omega)
  have q4 : a - 1 < ((a - 1) / c1 + 1) * c1 := Int.lt_ediv_add_one_mul_self _ (by omega)
  rw [Int.add_mul, Int.one_mul] at q4
  have HF := Lib.hid (show fdOk c0 c1 c2 c3 c4 c5 c6 k a = decide ((a - 1 - (a - 1) / c1 * c1) / clsSize k < perBlock c1 k) by unfold fdOk; rw [hk, hi]; rfl)
  obtain ⟨q, hq⟩ : ∃ q, (a - 1) / c1 = q := ⟨_, rfl⟩
  have HQ := Lib.hid hq
  rw [hq] at q0 q1 q2 q3 q4 HF
  have l0 : 0 ≤ a - 1 - q * c1 := by omega
  have l1 : a - 1 - q * c1 < c1 := by omega
  have d0 : 0 ≤ (a - 1 - q * c1) / clsSize k := Int.ediv_nonneg l0 (by omega)
  have d1 : (a - 1 - q * c1) / clsSize k ≤ a - 1 - q * c1 := Int.ediv_le_self _ l0
  have r0 : 0 ≤ (a - 1 - q * c1) % clsSize k := Int.emod_nonneg _ (by omega)
  have r1 : (a - 1 - q * c1) % clsSize k < clsSize k := Int.emod_lt_of_pos _ (by omega)
  have hdd : Int.tdiv (a - 1 - q * c1) (clsSize k) = (a - 1 - q * c1) / clsSize k := Int.tdiv_eq_ediv_of_nonneg l0
  have hmm : Int.tmod (a - 1 - q * c1) (clsSize k) = (a - 1 - q * c1) % clsSize k := Int.tmod_eq_emod_of_nonneg l0
  clear hk hi hc hq
  obtain ⟨d, hd⟩ : ∃ d, (a - 1 - q * c1) / clsSize k = d := ⟨_, rfl⟩
  obtain ⟨r, hr⟩ : ∃ r, (a - 1 - q * c1) % clsSize k = r := ⟨_, rfl⟩
  have WD : Hid (IntKind.i64.wrap d = d) := by show IntKind.i64.wrap d = d; exact IntWalk.i64_in _ (by omega)
  have HV : Hid (∀ b, fdV c1 k a b = match b with | true => PlV q d r | false => PlV 0 0 0) := by intro b; show fdV c1 k a b = _; cases b; rfl; unfold fdV; rw [HQ.out, hd, hr]
  have HD := Lib.hid hd
  rw [hd] at d0 d1 HF hdd
  rw [hr] at r0 r1 hmm
  have ne : clsSize k ≠ 0 := by omega
  obtain ⟨f, hf⟩ : ∃ f, decide (d < perBlock c1 k) = f := ⟨_, rfl⟩
  have HF2 := Lib.hid (HF.out.trans hf)
  rw [HF2.out]
  have HF3 := Lib.hid hf
  clear hf
  go_enter Tryz.func164, Tryz.ntmps164
  go_wp2_with (first | (go_at_call 162; refine (addr_Block c0 c1 c2 c3 c4 c5 c6 a _ (HL.out.touch (S := nob) (by (repeat (first | with_reducible exact Touch.refl _ _ | with_reducible assumption | with_reducible apply Touch.alloc | with_reducible apply Touch.drewN | with_reducible apply Touch.drew | with_reducible refine Touch.setCell ?_ (.inr (by first | omega | (simp; done) | (simp; omega))) _))) (fun x => x))).mono ?_; rintro e w1 ⟨rfl, hb⟩; rw [HK.out]; simp only [ifB, HQ.out]; obtain ⟨hcc, hff⟩ := bcell hb) | (go_at_call 175; refine (class_Is _ _).mono ?_; rintro e w2 ⟨rfl, rfl⟩; rw [HI.out]))
  have HT1 : Hid (Touch nob w w1) := Touch.trans (show Touch nob w _ from (((Touch.refl nob w).alloc _).alloc _)) (Touch.of_below hb)
  have B0 : w1.heap[w.heap.size]? = some (Obj.cells (CfgRow c0 c1 c2 c3 c4 c5 c6) 23) := (hb.block w.heap.size (by simp only [World.size_alloc]; omega)).trans ((alloc2_0 w _ _).trans rfl)
  have B1 : w1.heap[w.heap.size + 1]? = some (Obj.cells #[.int .i64 0, .int .i64 0, .int .i64 0] 212) := (hb.block (w.heap.size + 1) (by simp only [World.size_alloc]; omega)).trans (alloc2_1 w _ _)
  have HBB := Lib.hid (And.intro B0 B1)
  clear B0 B1 hd hr
  go_region_with (first | (go_at_call 170; refine (class_Size _ _ (HZ.out.touch (S := nob) (by have hT1 := HT1.out; (repeat (first | with_reducible exact Touch.refl _ _ | with_reducible assumption | with_reducible apply Touch.alloc | with_reducible apply Touch.drewN | with_reducible apply Touch.drew | with_reducible refine Touch.setCell ?_ (.inr (by first | omega | (simp; done) | (simp; omega))) _))) (fun h => h))).mono ?_; rintro e w9 ⟨rfl, rfl⟩))
  all_goals
    rw [WD.out]
    obtain ⟨W, hW⟩ : ∃ W, W = (w1.alloc (Obj.cells #[.int .i64 q, .int .i64 d, .int .i64 r] 212)).drew := ⟨_, rfl⟩
    rw [← hW]
    have hT : Touch nob w1 W := by rw [hW]; exact ((Touch.refl _ _).alloc _).drew
    have hp : W.heap[w1.heap.size]? = some (Obj.cells #[.int .i64 q, .int .i64 d, .int .i64 r] 212) := by rw [hW]; exact World.alloc_heap_new _ _
    have hB0 := (hT.block _ (Array.getElem?_eq_some_iff.1 HBB.out.1).1 (fun x => x)).trans HBB.out.1
    have hB1 := (hT.block _ (Array.getElem?_eq_some_iff.1 HBB.out.2).1 (fun x => x)).trans HBB.out.2
    have HTW := Lib.hid (HT1.out.trans hT)
    have p0 : W.cell? ⟨w1.heap.size, 0, none⟩ = some (.int .i64 q) := by simp [World.cell?, hp]
    have p1 : W.cell? ⟨w1.heap.size, 1, none⟩ = some (.int .i64 d) := by simp [World.cell?, hp]
    have p2 : W.cell? ⟨w1.heap.size, 2, none⟩ = some (.int .i64 r) := by simp [World.cell?, hp]
    have z1 : W.cell? ⟨w.heap.size, 1, none⟩ = some (.int .i64 c1) := by simp [World.cell?, hB0]
    have y0 : W.cell? ⟨w.heap.size + 1, 0, none⟩ = some (.int .i64 0) := by simp [World.cell?, hB1]
    have y1 : W.cell? ⟨w.heap.size + 1, 1, none⟩ = some (.int .i64 0) := by simp [World.cell?, hB1]
    have y2 : W.cell? ⟨w.heap.size + 1, 2, none⟩ = some (.int .i64 0) := by simp [World.cell?, hB1]
    have g0 : W.frozen? ⟨w.heap.size + 1, 0, none⟩ = false := by simp [World.frozen?, hB1]
    have g1 : W.frozen? ⟨w.heap.size + 1, 1, none⟩ = false := by simp [World.frozen?, hB1]
    have g2 : W.frozen? ⟨w.heap.size + 1, 2, none⟩ = false := by simp [World.frozen?, hB1]
    have HS1 : Hid (∀ n, Sizes (W.drewN n)) := fun n => HZ.out.touch (S := nob) (HTW.out.drewN n) (fun h => h)
    clear hW hp hB0 hB1 hT hcc hff hb
    cases f
    · have hlt : perBlock c1 k ≤ d := by have := HF3.out; simpa using this
      go_wp2_with fail
      go_quiet ((go_at_call 178; exact Calls.quiet_of_same ((class_PerBlock _ _ _ (HS1.out _)).mono fun _ _ h => ⟨h.1, h.2.symm⟩)))
      go_wp2
      refine bodyPost_ret (v := .tuple #[PlV 0 0 0, .bool false]) (by simp [results, Tryz.results164, go_sem, y0, y1, y2]) rfl ⟨by rw [HV.out], Touch.below ?_⟩
      repeat (first | with_reducible exact HTW.out | with_reducible apply Touch.drewN | refine Touch.setCell ?_ (.inr (by simp)) _)
    · have hlt : d < perBlock c1 k := by have := HF3.out; simpa using this
      go_wp2_with fail
      go_quiet ((go_at_call 178; exact Calls.quiet_of_same ((class_PerBlock _ _ _ (HS1.out _)).mono fun _ _ h => ⟨h.1, h.2.symm⟩)))
      go_wp2
      refine bodyPost_ret (v := .tuple #[PlV q d r, .bool true]) (by simp [results, Tryz.results164, go_sem, y0, y1, y2]) rfl ⟨by rw [HV.out], Touch.below ?_⟩
      repeat (first | with_reducible exact HTW.out | with_reducible apply Touch.drewN | refine Touch.setCell ?_ (.inr (by simp)) _)
theorem pl_where {c0 c1 c2 c3 c4 c5 c6 k b s x : Int} (h : plOk c0 c1 c2 c3 c4 c5 c6 k b s x = true) : (plA c1 k b s x - 1) / c1 = b ∧ (plA c1 k b s x - 1 - b * c1) / clsSize k = s ∧ (plA c1 k b s x - 1 - b * c1) % clsSize k = x ∧ blkOk c0 c1 c2 c3 c4 c5 c6 (plA c1 k b s x) = true := by
  obtain ⟨⟨m0, m1⟩, ⟨m2, m3⟩, m4⟩ := pl_bd h
  obtain ⟨hc, hi, ⟨b0, b1⟩, ⟨s0, s1⟩, x0, x1⟩ := plOk_iff.1 h
  obtain ⟨⟨u0, v0⟩, ⟨u1, v1⟩, _⟩ := cfgOk_iff.1 hc
  have z0 := clsSize_lo hi
  refine ⟨?_, ?_, ?_, ?_⟩
  · rw [show plA c1 k b s x - 1 = (s * clsSize k + x) + b * c1 by unfold plA; omega, Int.add_mul_ediv_right _ _ (by omega), Int.ediv_eq_zero_of_lt (by omega) (by omega)]; omega
  · rw [show plA c1 k b s x - 1 - b * c1 = x + s * clsSize k by unfold plA; omega, Int.add_mul_ediv_right _ _ (by omega), Int.ediv_eq_zero_of_lt x0 x1]; omega
  · rw [show plA c1 k b s x - 1 - b * c1 = x + s * clsSize k by unfold plA; omega, Int.add_mul_emod_self_right, Int.emod_eq_of_lt x0 x1]
  · exact blkOk_iff.2 ⟨hc, by unfold plA; omega, by unfold plA; omega⟩
theorem pl_inj {c0 c1 c2 c3 c4 c5 c6 k b s x b' s' x' : Int} (h : plOk c0 c1 c2 c3 c4 c5 c6 k b s x = true) (h' : plOk c0 c1 c2 c3 c4 c5 c6 k b' s' x' = true) :
    (plA c1 k b s x == plA c1 k b' s' x') = (b == b' && (s == s' && x == x')) := by
  obtain ⟨e1, e2, e3, _⟩ := pl_where h
  obtain ⟨f1, f2, f3, _⟩ := pl_where h'
  rw [Bool.eq_iff_iff]
  simp only [beq_iff_eq, Bool.and_eq_true]
  constructor
  · intro e
    have hb : b = b' := by rw [← e1, ← f1, e]
    subst hb
    exact ⟨rfl, by rw [← e2, ← f2, e], by rw [← e3, ← f3, e]⟩
  · rintro ⟨rfl, rfl, rfl⟩; rfl
end Go.Proofs.YtnobempbcdkoaaaGreatDoor
namespace Go.Proofs.YtnobempbcdkoaaaGreatDoor
open Go.RowKit Go.Sort

theorem pl_box {W : World} {b : Nat} {t : TypeId} {x y z : Int} (h : W.heap[b]? = some (Obj.cells #[.int .i64 x, .int .i64 y, .int .i64 z] t)) {w' : World} (ht : Touch nob W w') :
    w'.cell? ⟨b, 0, none⟩ = some (.int .i64 x) ∧ w'.cell? ⟨b, 1, none⟩ = some (.int .i64 y) ∧ w'.cell? ⟨b, 2, none⟩ = some (.int .i64 z) := by
  have hb := (Array.getElem?_eq_some_iff.1 h).1
  have e := (ht.block b hb (fun x => x)).trans h
  simp [World.cell?, e]
theorem same_regrown {f : FuncId} {args : Array Value} {v : Value} {W : World} (h : ∀ w, Calls Tryz.prog f args w fun e w' => e = .returned v ∧ w = w') (d : Nat) (os : Array Obj) :
    Calls Tryz.prog f args (grow (redrawn W d) os) fun e w'' => e = .returned v ∧ ∃ p : Regrown, w'' = grow (redrawn W p.d) p.os :=
  (h _).mono fun _ _ h => ⟨h.1, ⟨⟨d, os⟩, h.2.symm⟩⟩

set_option maxHeartbeats 4000000 in
theorem ref04_Of (c0 c1 c2 c3 c4 c5 c6 k b s x : Int) (w : World) :
    Calls Tryz.prog 158 #[CfgV c0 c1 c2 c3 c4 c5 c6, .int .i64 k, PlV b s x] w fun e w' => e = .returned (.int .i64 (ifB (plOk c0 c1 c2 c3 c4 c5 c6 k b s x) (plA c1 k b s x))) ∧ Below w.heap.size w w' := by
  go_enter Tryz.func158, Tryz.ntmps158
  go_wp2_with fail
  obtain ⟨W, hW⟩ : ∃ W, W = (w.alloc (Obj.cells (CfgRow c0 c1 c2 c3 c4 c5 c6) 23)).alloc (Obj.cells #[.int .i64 b, .int .i64 s, .int .i64 x] 207) := ⟨_, rfl⟩
  obtain ⟨n, hn⟩ : ∃ n, n = w.heap.size := ⟨_, rfl⟩
  rw [← hW, ← hn]
  have hr : W.heap[n]? = some (Obj.cells (CfgRow c0 c1 c2 c3 c4 c5 c6) 23) := by rw [hW, hn]; exact (alloc2_0 w _ _).trans rfl
  have hr2 : W.heap[n + 1]? = some (Obj.cells #[.int .i64 b, .int .i64 s, .int .i64 x] 207) := by rw [hW, hn]; exact alloc2_1 w _ _
  have HT : Hid (Touch nob w W) := by show Touch nob w W; rw [hW]; exact ((Touch.refl _ _).alloc _).alloc _
  have HB := Lib.hid (fun w' ht => cfg_box hr (w' := w') ht)
  have HB2 := Lib.hid (fun w' ht => pl_box hr2 (w' := w') ht)
  obtain ⟨r0, r1, r2, r3, r4, r5, r6⟩ := cfg_box hr (Touch.refl _ _)
  have k0 := cell_regrown r0
  have k1 := cell_regrown r1
  have k2 := cell_regrown r2
  have k3 := cell_regrown r3
  have k4 := cell_regrown r4
  have k5 := cell_regrown r5
  have k6 := cell_regrown r6
  obtain ⟨s0, s1, s2⟩ := pl_box hr2 (Touch.refl _ _)
  have p0 := cell_regrown s0
  have p1 := cell_regrown s1
  have p2 := cell_regrown s2
  have d1 := fun d os => Calls.regrown_of (ref02_Right c0 c1 c2 c3 c4 c5 c6 (grow (redrawn W d) os))
  have d2 := same_regrown (W := W) (ref03_Is k)
  have d3 := same_regrown (W := W) (ref03_Per c1 k)
  have d4 := same_regrown (W := W) (ref03_Size k)
  clear hW hn hr hr2 r0 r1 r2 r3 r4 r5 r6 s0 s1 s2
  cases hk : plOk c0 c1 c2 c3 c4 c5 c6 k b s x
  · have main : (cfgOk c0 c1 c2 c3 c4 c5 c6 = false) ∨ (cfgOk c0 c1 c2 c3 c4 c5 c6 = true ∧ isCls k = false) ∨ (cfgOk c0 c1 c2 c3 c4 c5 c6 = true ∧ isCls k = true ∧ decide (b < 0) = true) ∨ (cfgOk c0 c1 c2 c3 c4 c5 c6 = true ∧ isCls k = true ∧ decide (b < 0) = false ∧ decide (c0 ≤ b) = true) ∨ (cfgOk c0 c1 c2 c3 c4 c5 c6 = true ∧ isCls k = true ∧ decide (b < 0) = false ∧ decide (c0 ≤ b) = false ∧ decide (s < 0) = true) ∨ (cfgOk c0 c1 c2 c3 c4 c5 c6 = true ∧ isCls k = true ∧ decide (b < 0) = false ∧ decide (c0 ≤ b) = false ∧ decide (s < 0) = false ∧ decide (perBlock c1 k ≤ s) = true) ∨ (cfgOk c0 c1 c2 c3 c4 c5 c6 = true ∧ isCls k = true ∧ decide (b < 0) = false ∧ decide (c0 ≤ b) = false ∧ decide (s < 0) = false ∧ decide (perBlock c1 k ≤ s) = false ∧ decide (x < 0) = true) ∨ (cfgOk c0 c1 c2 c3 c4 c5 c6 = true ∧ isCls k = true ∧ decide (b < 0) = false ∧ decide (c0 ≤ b) = false ∧ decide (s < 0) = false ∧ decide (perBlock c1 k ≤ s) = false ∧ decide (x < 0) = false ∧ decide (clsSize k ≤ x) = true) := by
      cases hc : cfgOk c0 c1 c2 c3 c4 c5 c6
      · exact .inl rfl
      · cases hi : isCls k
        · exact .inr (.inl ⟨rfl, rfl⟩)
        · have hx : ¬ ((0 ≤ b ∧ b < c0) ∧ (0 ≤ s ∧ s < perBlock c1 k) ∧ 0 ≤ x ∧ x < clsSize k) := fun h => by
            have := plOk_iff.2 ⟨hc, hi, h⟩
            rw [hk] at this; exact absurd this (by decide)
          simp only [decide_eq_true_eq, decide_eq_false_iff_not, true_and]
          refine .inr (.inr ?_)
          omega
    have HK := Lib.hid hk
    clear hk
    rcases main with h1 | ⟨h1, h2⟩ | ⟨h1, h2, h3⟩ | ⟨h1, h2, h3, h4⟩ | ⟨h1, h2, h3, h4, h5⟩ | ⟨h1, h2, h3, h4, h5, h6⟩ | ⟨h1, h2, h3, h4, h5, h6, h7⟩ | ⟨h1, h2, h3, h4, h5, h6, h7, h8⟩
    all_goals
      rw [h1] at d1
      try rw [h2] at d2
      clear h1
      try clear h2
      refine wp_region_quiet_below (by kernel_rfl) (by kernel_rfl) ?_
      repeat (go_big_quiet_step (first | (go_at_call 177; exact d1 _ _) | (go_at_call 156; exact d2 _ _) | (go_at_call 157; exact d3 _ _) | (go_at_call 155; exact d4 _ _)))
      refine wpQuiet_nil ?_
      intro W2 hw'
      obtain ⟨⟨dq, osq⟩, hw''⟩ := hw'
      simp only at hw''
      have hT2 : Touch nob W W2 := by rw [hw'']; exact Touch.of_below (below_regrown W dq osq)
      clear hw'' d1 d2 d3 d4 k0 k1 k2 k3 k4 k5 k6 p0 p1 p2
      go_wp2
      go_ret
      exact ⟨ret_int (by rw [HK.out]; rfl), (HT.out.trans hT2).below⟩
  · obtain ⟨hc, hi, ⟨b0, b1⟩, ⟨s0, s1⟩, x0, x1⟩ := plOk_iff.1 hk
    obtain ⟨⟨m0, m1⟩, ⟨m2, m3⟩, m4⟩ := pl_bd hk
    obtain ⟨⟨u0, v0⟩, ⟨u1, v1⟩, _⟩ := cfgOk_iff.1 hc
    have q1 := (clsSize_bd k).2
    rw [hc] at d1
    rw [hi] at d2
    have e3 : decide (b < 0) = false := by simp; omega
    have e4 : decide (c0 ≤ b) = false := by simp; omega
    have e5 : decide (s < 0) = false := by simp; omega
    have e6 : decide (perBlock c1 k ≤ s) = false := by simp; omega
    have e7 : decide (x < 0) = false := by simp; omega
    have e8 : decide (clsSize k ≤ x) = false := by simp; omega
    have HK := Lib.hid hk
    clear hc hi hk
    refine wp_region_quiet_below (by kernel_rfl) (by kernel_rfl) ?_
    repeat (go_big_quiet_step (first | (go_at_call 177; exact d1 _ _) | (go_at_call 156; exact d2 _ _) | (go_at_call 157; exact d3 _ _) | (go_at_call 155; exact d4 _ _)))
    refine wpQuiet_nil ?_
    intro W2 hw'
    obtain ⟨⟨dq, osq⟩, hw''⟩ := hw'
    simp only at hw''
    have hT2 : Touch nob W W2 := by rw [hw'']; exact Touch.of_below (below_regrown W dq osq)
    clear hw'' d1 d2 d3 d4 k0 k1 k2 k3 k4 k5 k6 p0 p1 p2
    obtain ⟨k0, k1, k2, k3, k4, k5, k6⟩ := HB.out _ hT2
    obtain ⟨p0, p1, p2⟩ := HB2.out _ hT2
    go_wp2_with fail
    go_quiet ((go_at_call 155; exact Calls.quiet_of_same ((ref03_Size _ _).mono fun _ _ h => ⟨h.1, h.2.symm⟩)))
    go_wp2
    go_ret
    exact ⟨ret_int (by rw [HK.out]; rfl), ((HT.out.trans hT2).drewN nq).below⟩
end Go.Proofs.YtnobempbcdkoaaaGreatDoor
namespace Go.Proofs.YtnobempbcdkoaaaGreatDoor
open Go.RowKit Go.Shelf
attribute [local go_sem] Oper.semAt_some

theorem prefix_range {n i : Nat} (h : i < n) : List.range i ++ [i] <+: List.range n := by
  rw [← List.range_succ, List.prefix_iff_eq_take]
  simp [List.take_range, Nat.min_eq_left h]

theorem prefix_of_range {n x : Nat} {pre : List Nat} (h : pre ++ [x] <+: List.range n) : x = pre.length ∧ pre.length < n ∧ pre = List.range pre.length := by
  have h1 := List.prefix_iff_eq_take.1 h
  have hl : pre.length + 1 ≤ n := by have := h.length_le; simpa using this
  have h2 : pre ++ [x] = List.range (pre.length + 1) := by rw [h1]; simp [List.take_range, Nat.min_eq_left hl]
  rw [List.range_succ] at h2
  obtain ⟨h3, h4⟩ := List.append_inj' h2 rfl
  exact ⟨by simpa using h4, by omega, h3⟩
theorem prefix_range_len {n : Nat} {pre : List Nat} (h : pre <+: List.range n) : pre.length ≤ n ∧ pre = List.range pre.length := by
  have hl : pre.length ≤ n := by have := h.length_le; simpa using this
  have h1 := List.prefix_iff_eq_take.1 h
  exact ⟨hl, by rw [h1]; simp [List.take_range, Nat.min_eq_left hl]⟩
set_option maxHeartbeats 800000 in
theorem starts1_iter (x k : Int) (bw bk n : Nat) (hn : perBlock x k = n) (w : World) (hS : Sizes w) (hg : 2 < w.heap.size) (hbw : bw < w.heap.size) (hbk : bk < w.heap.size) (hcw : w.cell? ⟨bw, 0, none⟩ = some (.int .i64 x)) (hck : w.cell? ⟨bk, 0, none⟩ = some (.int .i64 k)) :
    Iter Tryz.prog 188 #[.pointer (some ⟨bw, 0, none⟩), .pointer (some ⟨bk, 0, none⟩)] (fun i : Nat => #[.int .i64 i, .int .i64 (i * clsSize k)]) AbD (fun _ _ => True) (List.range n) (fun b => b = bw ∨ b = bk ∨ b = 2) w := by
  intro l J Jx W O hT hJ hJx hY h0 hPr _
  have hT' := hT.below
  have hWw : W.cell? ⟨bw, 0, none⟩ = some (.int .i64 x) := (hT.cell hbw (fun x => x)).trans hcw
  have hWk : W.cell? ⟨bk, 0, none⟩ = some (.int .i64 k) := (hT.cell hbk (fun x => x)).trans hck
  have hWS : Sizes W := ⟨(hT.cell hg (fun x => x)).trans hS.1, (hT.cell hg (fun x => x)).trans hS.2.1, (hT.cell hg (fun x => x)).trans hS.2.2.1, (hT.cell hg (fun x => x)).trans hS.2.2.2⟩
  have HS := Lib.hid hWS
  have HN := Lib.hid hn
  have hsz := hT.size
  clear hT hT' hcw hck hS
  refine callsIn_of_wp Tryz.func188 rfl trivial ?_ rfl
  simp only [Tryz.ntmps188, List.size_toArray, List.length_cons, List.length_nil, Nat.reduceAdd, Nat.reduceSub, Array.replicate_succ, Array.replicate_zero, List.push_toArray, List.append_toArray, List.nil_append, List.cons_append]
  clear hn
  gi_wp2_with (refine ⟨trivial, rfl, ?_⟩; gi_at_call 178; refine (callsIn_wide.2 (class_PerBlock x k W HS.out)).mono ?_; rintro e w' ⟨rfl, rfl⟩; rw [HN.out])
  gi_loopw [8] (fun c wr => ∃ (i : Nat) (O : Nat → Prop), i ≤ n ∧ c = .int .i64 i ∧ J (List.range i) O wr ∧ W.heap.size ≤ wr.heap.size ∧ (∀ b, b = bw ∨ b = bk ∨ b = 2 → ¬ O b ∧ wr.heap[b]? = W.heap[b]?)) (fun c _ => n - (intOf c).toNat)
  case atStart => exact ⟨0, O, by omega, rfl, h0, Nat.le_refl _, fun b hb => ⟨hPr b hb, rfl⟩⟩
  case round =>
    obtain ⟨i, O, hi, rfl, hJi, hsr, hpr⟩ := hrel
    have cellOf : ∀ b o, (b = bw ∨ b = bk ∨ b = 2) → wr.cell? ⟨b, o, none⟩ = W.cell? ⟨b, o, none⟩ := fun b o hb => World.cell?_of_block (w := W) (a := ⟨b, o, none⟩) (hpr b hb).2
    have c1 := (cellOf bw 0 (.inl rfl)).trans hWw
    have c2 := (cellOf bk 0 (.inr (.inl rfl))).trans hWk
    obtain ⟨z0, z1, z2, z3⟩ := HS.out
    replace z0 := (cellOf _ _ (.inr (.inr rfl))).trans z0
    replace z1 := (cellOf _ _ (.inr (.inr rfl))).trans z1
    replace z2 := (cellOf _ _ (.inr (.inr rfl))).trans z2
    replace z3 := (cellOf _ _ (.inr (.inr rfl))).trans z3
    clear cellOf hWw hWk
    by_cases hlt : i < n
    · have hk : isCls k = true := by
        cases hk : isCls k
        · have := HN.out
          unfold perBlock at this
          rw [hk] at this
          simp at this
          omega
        · rfl
      have hn128 : n ≤ 128 := by
        have := HN.out
        unfold perBlock at this
        split at this
        · rename_i hh
          simp only [Bool.and_eq_true, wordsOk, decide_eq_true_eq] at hh
          have := (per_bd x (clsSize k) (by omega) (by omega) (clsSize_lo hk) (clsSize_bd k).2).2.1
          omega
        · omega
      obtain ⟨fn, tmps, assign, body, hy, hR⟩ := hY (List.range i) i wr O hJi (prefix_range hlt)
      clear hY
      rcases clsSize_cases hk with ⟨rfl, hs⟩ | ⟨rfl, hs⟩ | ⟨rfl, hs⟩ | ⟨rfl, hs⟩
      all_goals
        rw [hs] at hy
        clear hs hk hJx hJ
        have HPR := Lib.hid hpr
        clear hpr
        have HR := Lib.hid hR
        clear hR
        gi_wp2
        refine ⟨rfl, HR.out.mono ?_⟩
        rintro e W' ⟨O', hT, hsub, (⟨rfl, hJ', _⟩ | ⟨rfl, hJx'⟩)⟩
        · have HS' := Lib.hid hsub
          have HT' := Lib.hid hT
          have HJ' := Lib.hid hJ'
          clear hsub hT hJ'
          gi_wp2
          go_roundw
          case rel =>
            refine ⟨i + 1, O', by omega, by go_num, by rw [List.range_succ]; exact HJ'.out, Nat.le_trans hsr HT'.out.size, fun b hb => ?_⟩
            have hb1 := HPR.out b hb
            have hbl : b < W.heap.size := by rcases hb with rfl | rfl | rfl <;> omega
            refine ⟨fun h => ?_, (HT'.out.block b (by omega) hb1.1).trans hb1.2⟩
            rcases HS'.out b h with h | h
            · exact hb1.1 h
            · omega
          case measure => simp [intOf]; omega
        · have HJ' := Lib.hid hJx'
          clear hsub hT hJx'
          gi_wp2
          refine bodyPost_ret (results_none rfl _ _ _) rfl ?_
          exact ⟨⟨_, rfl⟩, O', .inr ⟨List.range i ++ [i], prefix_range hlt, HJ'.out⟩⟩
    · obtain rfl : i = n := by omega
      clear hY
      gi_wp2
      go_end0
      exact ⟨⟨_, rfl⟩, O, .inl hJi⟩
set_option maxHeartbeats 400000 in
theorem class_Starts (x k : Int) (w : World) :
    Calls Tryz.prog 186 #[.int .i64 x, .int .i64 k] w fun e w' => e = .returned (.func (.func 188) #[] #[.pointer (some ⟨w.heap.size, 0, none⟩), .pointer (some ⟨w.heap.size + 1, 0, none⟩)]) ∧ w' = (w.alloc (.cells #[.int .i64 x] 3)).alloc (.cells #[.int .i64 k] 3) := by
  have hmf : ∀ (fn : Fn) (first cap : Array Value) (w : World), (Instr.makeFunc fn first cap).run Tryz.prog w = .ok (.func fn first cap) w := fun _ _ _ _ => rfl
  go_enter Tryz.func186, Tryz.ntmps186
  go_wp2
  go_ret
  exact ⟨rfl, rfl⟩
end Go.Proofs.YtnobempbcdkoaaaGreatDoor
namespace Go.Proofs.YtnobempbcdkoaaaGreatDoor
open Go.RowKit Go.Shelf

theorem abd_touch {S : Nat → Prop} {w A B : World} {n : Nat} {O : Nat → Prop} (h : Touch S w A) (hab : AbD n O A B) (hn : w.heap.size ≤ n) : Touch S w B := h.step hab (fun _ hi => .inr (Nat.le_trans hn hi.1))
theorem abd_block {A B : World} {n k : Nat} {O : Nat → Prop} (hab : AbD n O A B) (hk : k < n) (hA : k < A.heap.size) : B.heap[k]? = A.heap[k]? := hab.block k hA (fun h => by omega)
theorem abd_boxed {A B : World} {n k : Nat} {O : Nat → Prop} {o : Obj} (hab : AbD n O A B) (hk : k < n) (hA : A.heap[k]? = some o) : B.heap[k]? = some o := (abd_block hab hk (Array.getElem?_eq_some_iff.1 hA).1).trans hA
theorem abD_T : ∀ n O A B, AbD n O A B → AbD n O A B := fun _ _ _ _ h => h
theorem abD_M : ∀ (m n : Nat) (O O' : Nat → Prop) (A B : World), (∀ b, O' b → O b) → m ≤ n → AbD n O A B → AbD m O' A B :=
  fun _ _ _ _ _ _ h hm hab => Touch.mono hab (fun _ _ hi => ⟨Nat.le_trans hm hi.1, fun x => hi.2 (h _ x)⟩)
theorem abD_O : ∀ (n : Nat) (O : Nat → Prop) (A B : World) (k : Nat) (o : Obj), AbD n O A B → O k → A.heap[k]? = some o → o.isCells = false → B.heap[k]? = some o :=
  fun _ _ _ _ _ _ hab hO hk _ => (hab.block _ (Array.getElem?_eq_some_iff.1 hk).1 (fun x => x.2 hO)).trans hk

theorem info_int2 : (Tryz.prog.info? 3).map (fun i => (i.zero, i.size, i.bytes)) = some (some (.int .i64 0), 1, 8) := by kernel_rfl
theorem own_shape {w : World} {base n : Nat} {e : TypeId} {v : Value} {zs : List Value} (h : w.ownsRow base e 1 v n zs) : ∃ ao cap, v = .slice ao n cap := by
  rcases h.2 with ⟨rfl, rfl⟩ | ⟨g, cap, cur, rfl, _⟩
  · exact ⟨_, _, rfl⟩
  · exact ⟨_, _, rfl⟩
theorem owns_at {w w' : World} {base n : Nat} {e : TypeId} {v : Value} {zs : List Value} (h : w.ownsRow base e 1 v n zs) (hk : ∀ b, v.ownBlock = some b → b < w.heap.size → w'.heap[b]? = w.heap[b]?) : w'.ownsRow base e 1 v n zs := by
  obtain ⟨h1, h2⟩ := h
  refine ⟨h1, ?_⟩
  rcases h2 with h2 | ⟨g, cap, cur, rfl, hg, hh, r⟩
  · exact .inl h2
  · exact .inr ⟨g, cap, cur, rfl, hg, (hk g rfl (blk_lt hh)).trans hh, r⟩
theorem ints_of_own {w : World} {base n : Nat} {v : Value} {xs : List Nat} (h : w.ownsRow base 3 1 v n (xs.map fun (x : Nat) => Value.int .i64 (x : Int))) : IntsIn w v (xs.map fun (x : Nat) => (x : Int)) := by
  have hn := h.1
  rcases h.2 with ⟨rfl, rfl⟩ | ⟨g, cap, cur, rfl, hg, hh, hc, hc2, hs, ht⟩
  · have : xs = [] := by simpa using hn
    subst this
    exact ⟨none, 0, rfl, .inl rfl⟩
  · have hl : xs.length = n := by simpa using hn
    refine ⟨some ⟨g, 0, none⟩, cap, by simp [hl], .inr ⟨g, 0, rfl, by simpa [hl] using hc, fun j hj => ?_⟩⟩
    simp only [List.length_map] at hj
    have h5 : cur.toList[j]? = some (Value.int .i64 ((xs.getD j 0 : Nat) : Int)) := by
      have h6 : (cur.toList.take n)[j]? = some (Value.int .i64 ((xs.getD j 0 : Nat) : Int)) := by
        rw [show cur.toList.take n = xs.map fun (x : Nat) => Value.int .i64 (x : Int) by simpa using ht, List.getElem?_map, List.getElem?_eq_getElem hj, List.getD_eq_getElem?_getD, List.getElem?_eq_getElem hj]
        rfl
      rwa [List.getElem?_take, if_pos (by omega)] at h6
    have h7 : (xs.map fun (x : Nat) => (x : Int)).getD j 0 = ((xs.getD j 0 : Nat) : Int) := by
      simp [List.getD_eq_getElem?_getD, hj]
    rw [h7]
    simpa [World.cell?, hh] using h5
/-- The row that a range over a function fills: box at b1, base B. -/
def LiRow (B b1 : Nat) (l : List Nat) (v : Value) (A : World) : Prop :=
  A.heap[b1]? = some (Obj.cells #[v] 28) ∧ A.ownsRow B 3 1 v l.length (l.map fun (x : Nat) => Value.int .i64 (x : Int))
theorem grown_box {A A' : World} {row : Option Nat} {b : Nat} {o : Obj} (hg : A.grownBy A' row) (h : A.heap[b]? = some o) (hr : row ≠ some b) : A'.heap[b]? = some o := (hg.block b (blk_lt h) (fun e => hr e.symm)).trans h
theorem LiRow.keep {B b1 : Nat} {l : List Nat} {v : Value} {A A' : World} (h : LiRow B b1 l v A) (hk : ∀ k, k < A.heap.size → (k = b1 ∨ v.ownBlock = some k) → A'.heap[k]? = A.heap[k]?) : LiRow B b1 l v A' :=
  ⟨(hk _ (blk_lt h.1) (.inl rfl)).trans h.1, owns_at h.2 (fun b hb hl => hk b hl (.inr hb))⟩
end Go.Proofs.YtnobempbcdkoaaaGreatDoor
