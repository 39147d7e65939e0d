/- Free lists: what the law makes, and the law's example, walked. Conditions: the tables of limits and of sizes read as laid. Free lists and what is in them: what each call tells; the law's example, walked. Conditions: the tables of limits and of sizes read as laid. -/
import Derived.Test.YtflhjbmoncbomaaGreatDoorLList
import Derived.Test.YtflhjbmoncbomaaGreatDoorAwake7
import Derived.Test.YtflhjbmoncbomaaGreatDoorInts
namespace Go.Proofs.YtflhjbmoncbomaaGreatDoor
open Go.RowKit

variable {w wr : World} {A : LA} {c : Cf} {n : Nat}
/-- A slice of bytes: what it holds. -/
def U8In (w : World) (v : Value) (us : List Int) : Prop :=
  ∃ ao cap, v = .slice ao us.length cap ∧ (us = [] ∨ ∃ b o, ao = some ⟨b, o, none⟩ ∧ us.length ≤ cap ∧ ∀ j, j < us.length → w.cell? ⟨b, o + j, none⟩ = some (.int .u8 (us.getD j 0)))
theorem U8In.old {w w' : World} {v : Value} {us : List Int} (h : U8In w v us) (ht : Touch nob w w') : U8In w' v us := by
  obtain ⟨ao, cap, rfl, h⟩ := h
  refine ⟨ao, cap, rfl, ?_⟩
  rcases h with h | ⟨b, o, rfl, hc, h⟩
  · exact .inl h
  · exact .inr ⟨b, o, rfl, hc, fun j hj => (ht.cell (cell_lt (h j hj)) (fun x => x)).trans (h j hj)⟩
theorem U8In.at {w : World} {v : Value} {us : List Int} (h : U8In w v us) {k : Nat} (hk : k < us.length) : ∃ b o cap, v = .slice (some ⟨b, o, none⟩) us.length cap ∧ us.length ≤ cap ∧ w.cell? ⟨b, o + k, none⟩ = some (.int .u8 (us.getD k 0)) := by
  obtain ⟨ao, cap, rfl, h | ⟨b, o, rfl, hc, h⟩⟩ := h
  · subst h; simp at hk
  · exact ⟨b, o, cap, rfl, hc, h k hk⟩
theorem U8In.shape {w : World} {v : Value} {us : List Int} (h : U8In w v us) : ∃ ao cap, v = .slice ao us.length cap := by
  obtain ⟨ao, cap, rfl, _⟩ := h
  exact ⟨ao, cap, rfl⟩
/-- The classes that are assigned. -/
def asg (us : List Int) (n m : Nat) : List Int := ((us.take m).map (fun x => x % 4)).take n
theorem asg_succ {us : List Int} {n m : Nat} (hm : m < us.length) : asg us n (m + 1) = if (asg us n m).length < n then asg us n m ++ [us.getD m 0 % 4] else asg us n m := by
  unfold asg
  rw [take_snoc'' hm, List.map_append, List.map_cons, List.map_nil]
  have hl : ((us.take m).map (fun x => x % 4)).length = m := by rw [List.length_map, List.length_take]; omega
  by_cases h : m < n
  · have e1 : ((us.take m).map (fun x => x % 4)).take n = (us.take m).map (fun x => x % 4) := List.take_of_length_le (by omega)
    rw [e1, hl, if_pos h, List.take_of_length_le (by rw [List.length_append, hl]; simp; omega)]
  · rw [if_neg (by rw [List.length_take, hl]; omega), List.take_append_of_le_length (by omega)]
theorem asg_le (us : List Int) (n m : Nat) : (asg us n m).length ≤ n := by unfold asg; rw [List.length_take]; exact Nat.min_le_left _ _
/-- While it is made. -/
structure MadeAt (w wr : World) (pa qa ca z pt qt n : Nat) (c : Cf) (ks : List Int) : Prop where
  touch : Touch nob w wr
  ar : ArenaAt wr pa qa ca (List.replicate z 0) 0 0
  tb : BlkAt wr pt qt n n c ks
  ge : ∀ x ∈ [pa, qa, pt, qt], w.heap.size ≤ x
  nd : [pa, qa, pt, qt].Nodup
theorem MadeAt.ge4 {pa qa ca z pt qt : Nat} {ks : List Int} (h : MadeAt w wr pa qa ca z pt qt n c ks) : w.heap.size ≤ pa ∧ w.heap.size ≤ qa ∧ w.heap.size ≤ pt ∧ w.heap.size ≤ qt ∧ pa ≠ qt ∧ qa ≠ qt := by
  have h1 := h.nd
  simp only [List.nodup_cons, List.mem_cons, List.not_mem_nil, not_or, or_false, not_false_eq_true, List.nodup_nil, and_true] at h1
  exact ⟨h.ge _ (by simp), h.ge _ (by simp), h.ge _ (by simp), h.ge _ (by simp), h1.1.2.2, h1.2.1.2⟩
theorem made_Assign {pa qa ca z pt qt : Nat} {ks : List Int} (k : Int) (hk : isCls k = true) (h : MadeAt w wr pa qa ca z pt qt n c ks) :
    Calls Tryz.prog 85 #[.pointer (some ⟨pt, 0, none⟩), .int .i64 k] wr fun e w' => (∃ x y, e = .returned (.tuple #[.int .i64 x, .int .i64 y])) ∧ MadeAt w w' pa qa ca z pt qt n c (if ks.length < n then ks ++ [k] else ks) := by
  obtain ⟨g1, g2, g3, g4, g5, g6⟩ := h.ge4
  by_cases hf : ks.length < n
  · rw [if_pos hf]
    exact (blk_Assign_ok k h.tb hk hf).mono fun _ _ ⟨e1, e2, e3⟩ => ⟨⟨_, _, e1⟩, h.touch.step e2 (fun i hi => .inr (by rw [hi]; exact g4)), h.ar.touch e2 g5 g6, e3, h.ge, h.nd⟩
  · rw [if_neg hf]
    exact (blk_Assign_full k h.tb hk (by have := h.tb.le; omega)).mono fun _ _ ⟨e1, e2⟩ => ⟨⟨_, _, e1⟩, h.touch.trans e2, h.ar.touch e2 (fun x => x) (fun x => x), h.tb.old e2, h.ge, h.nd⟩
end Go.Proofs.YtflhjbmoncbomaaGreatDoor
namespace Go.Proofs.YtflhjbmoncbomaaGreatDoor
open Go.RowKit

/-- Lists, and what is in them. -/
structure LL (W w : World) (A : LA) (c : Cf) (s : LS) (H : Nat → List Nat) : Prop where
  ls : LsAt W w A c s
  inv : LInv c s H
  laid : Laid W
variable {W w wr : World} {A : LA} {c : Cf} {s : LS} {H : Nat → List Nat}
theorem LL.old {w' : World} (h : LL W w A c s H) (ht : Touch nob w w') : LL W w' A c s H := ⟨h.ls.old ht, h.inv, h.laid⟩
theorem LL.base (h : LL W w A c s H) : Touch nob W w := h.ls.base
theorem LL.lay (h : LL W w A c s H) : Laid w := h.laid.old h.ls.base
theorem LL.ok (h : LL W w A c s H) : c.ok = true := by obtain ⟨_, h1⟩ := h.ls.tb; exact h1.ok
theorem LL.slot (h : LL W w A c s H) {a : Int} (ho : ownB c s.ks a = true) : ∃ j k : Nat, a = j + 1 ∧ j < s.ws.length ∧ k < 4 ∧ clsA c s.ks (j + 1) = k ∧ ownB c s.ks (j + 1) = true := by
  obtain ⟨h1, h2⟩ := own_bd ho
  have h3 := h.ls.len
  obtain ⟨j, hj⟩ : ∃ j : Nat, a = j + 1 := ⟨(a - 1).toNat, by omega⟩
  subst hj
  obtain ⟨k, hk, hc⟩ := clsA_nat h.ok ho
  exact ⟨j, k, rfl, by omega, hk, hc, ho⟩
theorem LL.m_le (h : LL W w A c s H) {k : Nat} (hk : k < 4) : s.m k = (H k).length ∧ (H k).length ≤ 1048576 :=
  ⟨h.inv.many k hk, Nat.le_trans (h.inv.len_le hk) h.inv.wle⟩
theorem ll_Put_no (a : Int) (h : LL W w A c s H) (ho : ownB c s.ks a = false) :
    Calls Tryz.prog 90 #[.pointer (some ⟨A.p, 0, none⟩), .int .i64 a] w fun e w' => e = .returned (.int .i64 1) ∧ Touch (LT A) w w' ∧ LL W w' A c s H :=
  (lists_Put_no a h.ls ho h.laid).mono fun _ _ g => ⟨g.1, g.2.mono fun _ _ x => x.elim, h.old g.2⟩
theorem ll_Put_in (j k : Nat) (h : LL W w A c s H) (hj : j < s.ws.length) (ho : ownB c s.ks (j + 1) = true) (hk : k < 4) (hc : clsA c s.ks (j + 1) = k) (hm : j ∈ H k) :
    Calls Tryz.prog 90 #[.pointer (some ⟨A.p, 0, none⟩), .int .i64 (j + 1)] w fun e w' => e = .returned (.int .i64 11) ∧ Touch (LT A) w w' ∧ LL W w' A c s H :=
  (lists_Put_in j k h.ls hj ho hc ((h.inv.of_own hk hj hc).2 hm) h.laid).mono fun _ _ g => ⟨g.1, g.2.mono fun _ _ x => x.elim, h.old g.2⟩
theorem ll_Put_ok (j k : Nat) (h : LL W w A c s H) (hj : j < s.ws.length) (ho : ownB c s.ks (j + 1) = true) (hk : k < 4) (hc : clsA c s.ks (j + 1) = k) (hm : j ∉ H k) :
    Calls Tryz.prog 90 #[.pointer (some ⟨A.p, 0, none⟩), .int .i64 (j + 1)] w fun e w' => e = .returned (.int .i64 0) ∧ Touch (LT A) w w' ∧ LL W w' A c (s.put j k) (updH H k (j :: H k)) := by
  have hM : s.M (j + 1) = false := by
    cases e : s.M (j + 1)
    · rfl
    · exact absurd ((h.inv.of_own hk hj hc).1 e) hm
  obtain ⟨m1, m2⟩ := h.m_le hk
  exact (lists_Put_ok j k h.ls hj ho hk hc hM (by omega) h.laid).mono fun _ _ g => ⟨g.1, g.2.1, g.2.2, h.inv.put hk hj ho hc hM, h.laid⟩
theorem ll_Take_ok (j k : Nat) (L : List Nat) (h : LL W w A c s H) (hk : k < 4) (hL : H k = j :: L) :
    Calls Tryz.prog 84 #[.pointer (some ⟨A.p, 0, none⟩), .int .i64 k] w fun e w' => e = .returned (.tuple #[.int .i64 (j + 1), .int .i64 0]) ∧ Touch (LT A) w w' ∧ LL W w' A c (s.tak j k) (updH H k L) := by
  have hT := h.inv.thr k hk
  rw [hL] at hT
  obtain ⟨m1, m2⟩ := h.m_le hk
  have hm : j ∈ H k := by rw [hL]; exact List.mem_cons_self ..
  have hl : (H k).length = L.length + 1 := by rw [hL]; rfl
  exact (lists_Take_ok j k h.ls hT.2.1 hT.1 hk ((h.inv.of_own hk hT.2.1 (h.inv.cls k hk j hm).2).2 hm) (by omega) h.laid).mono fun _ _ g => ⟨g.1, g.2.1, g.2.2, h.inv.tak hk hL, h.laid⟩
theorem ll_Take_none (k : Nat) (h : LL W w A c s H) (hk : k < 4) (hL : H k = []) :
    Calls Tryz.prog 84 #[.pointer (some ⟨A.p, 0, none⟩), .int .i64 k] w fun e w' => e = .returned (.tuple #[.int .i64 0, .int .i64 12]) ∧ w = w' := by
  have hT := h.inv.thr k hk
  rw [hL] at hT
  exact lists_Take_none k h.ls hk hT
theorem ll_Load (j : Nat) (h : LL W w A c s H) (hj : j < s.ws.length) :
    Calls Tryz.prog 75 #[.pointer (some ⟨A.pa, 0, none⟩), .int .i64 (j + 1)] w fun e w' => e = .returned (.tuple #[.int .u64 (s.ws.getD j 0), .int .i64 0]) ∧ Touch (LT A) w w' ∧ LL W w' A c s H := by
  obtain ⟨ca, lo, st, ha⟩ := h.ls.ar
  exact (arena_Load_ok _ _ ca _ lo st j w ha hj).mono fun _ _ g => ⟨g.1, g.2.1.mono fun _ _ e => .inr (.inl e), h.ls.loaded g.2.1 g.2.2, h.inv, h.laid⟩
theorem ll_Next (j : Nat) (h : LL W w A c s H) (hj : j < s.ws.length) :
    Calls Tryz.prog 142 #[.int .u64 (s.ws.getD j 0)] w fun e w' => e = .returned (.tuple #[.int .i64 (nxtW (s.ws.getD j 0)), .bool (isLinkW (s.ws.getD j 0))]) ∧ w = w' :=
  header_NextV _ (h.ls.wok j hj).1 (h.ls.wok j hj).2 w h.lay.siz
theorem LL.has_nat (_ : LL W w A c s H) {j : Nat} (hj : j < s.ws.length) : hasB s.M (s.ws.length + 1) (j + 1) = s.M (j + 1) := by
  unfold hasB mayB
  rw [decide_eq_true (show (0 : Int) ≤ (j : Int) + 1 by omega), decide_eq_true (show (j : Int) + 1 < ((s.ws.length + 1 : Nat) : Int) by omega), show ((j : Int) + 1).toNat = j + 1 by omega]
  rfl
theorem LL.has_no (h : LL W w A c s H) {a : Int} (ho : ownB c s.ks a = false) : hasB s.M (s.ws.length + 1) a = false := by
  cases e : hasB s.M (s.ws.length + 1) a
  · rfl
  · unfold hasB at e
    rw [Bool.and_eq_true] at e
    obtain ⟨x, rfl, hx⟩ := may_nat e.1
    have e2 : s.M x = true := e.2
    cases x with
    | zero => rw [h.inv.zero] at e2; cases e2
    | succ j =>
      obtain ⟨k, hk, hm⟩ := (h.inv.mem j (by omega)).1 e2
      have := (h.inv.cls k hk j hm).1
      rw [show ((j + 1 : Nat) : Int) = (j : Int) + 1 by omega] at ho
      rw [ho] at this
      cases this
theorem Thr.nth {ws : List Int} : ∀ {a : Int} {L : List Nat} {i : Nat}, Thr ws a L → i < L.length → L.getD i 0 < ws.length ∧ isLinkW (ws.getD (L.getD i 0) 0) = true ∧ nxtW (ws.getD (L.getD i 0) 0) = if i + 1 < L.length then ((L.getD (i + 1) 0 : Nat) : Int) + 1 else 0
  | _, [], _, _, hi => by simp at hi
  | _, j :: L, 0, h, _ => by
    obtain ⟨h1, h2, h3, h4⟩ := h
    refine ⟨h2, h3, ?_⟩
    cases L with
    | nil => exact h4
    | cons x L => rw [if_pos (by simp)]; exact h4.1
  | _, j :: L, i + 1, h, hi => by
    have := Thr.nth (i := i) h.2.2.2 (by simpa using hi)
    simpa using this
def awakeC8 : Cf := ⟨1, 16, 1, 1, 0, 1, 1⟩
end Go.Proofs.YtflhjbmoncbomaaGreatDoor
