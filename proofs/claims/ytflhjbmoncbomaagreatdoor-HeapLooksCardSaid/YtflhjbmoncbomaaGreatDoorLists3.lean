/- Free lists: next, Put, Take, walked. Conditions: the tables of limits and of sizes read as laid, where said. Free lists: how they are threaded: plain laws. Conditions: none. Free lists: Put, Take, Has, Len, First, walked. Conditions: the tables of limits and of sizes read as laid, where said. Free lists: Take, New, walked. Conditions: the tables of limits and of sizes read as laid, where said. -/
import Derived.Test.YtflhjbmoncbomaaGreatDoorArena
import Derived.Test.YtflhjbmoncbomaaGreatDoorHeader
import Derived.Test.YtflhjbmoncbomaaGreatDoorBlkAll
import Derived.Test.YtflhjbmoncbomaaGreatDoorSet
import Derived.Deep.RegionHeld3
import Derived.Deep.RegionWith
import Derived.BigRegion
namespace Go.Proofs.YtflhjbmoncbomaaGreatDoor
open Go.RowKit

/-- Where lists lie: their box, the arena's, the table's, the set's; how many blocks. -/
structure LA where
  p : Nat
  pa : Nat
  qa : Nat
  pt : Nat
  qt : Nat
  pi : Nat
  qi : Nat
  n : Nat
/-- What they hold: the arena's words, the blocks' classes, which slots are in, first and many of each class. -/
structure LS where
  ws : List Int
  ks : List Int
  M : Nat → Bool
  f : Nat → Int
  m : Nat → Int
def LA.all (A : LA) : List Nat := [A.p, A.pa, A.qa, A.pt, A.qt, A.pi, A.qi]
/-- What calls of lists may turn. -/
def LT (A : LA) : Nat → Prop := fun b => b = A.p ∨ b = A.pa ∨ b = A.qa ∨ b = A.qi
structure LsAt (W w : World) (A : LA) (c : Cf) (s : LS) : Prop where
  base : Touch nob W w
  hi : ∀ x ∈ A.all, W.heap.size ≤ x
  box : w.heap[A.p]? = some (.cells #[.pointer (some ⟨A.pa, 0, none⟩), .pointer (some ⟨A.pt, 0, none⟩), .pointer (some ⟨A.pi, 0, none⟩), .int .i64 (s.f 0), .int .i64 (s.f 1), .int .i64 (s.f 2), .int .i64 (s.f 3), .int .i64 (s.m 0), .int .i64 (s.m 1), .int .i64 (s.m 2), .int .i64 (s.m 3)] 141)
  ar : ∃ ca lo st, ArenaAt w A.pa A.qa ca s.ws lo st
  tb : ∃ ct, BlkAt w A.pt A.qt ct A.n c s.ks
  se : ∃ ci wi, SetAt w A.pi A.qi ci wi (s.ws.length + 1) s.M
  len : (s.ws.length : Int) = c.c0 * c.c1
  wok : ∀ j, j < s.ws.length → 0 ≤ s.ws.getD j 0 ∧ s.ws.getD j 0 < 18446744073709551616
  ap : A.all.Nodup
variable {W w : World} {A : LA} {c : Cf} {s : LS}
theorem LsAt.ne (h : LsAt W w A c s) : (A.p ≠ A.pa ∧ A.p ≠ A.qa ∧ A.p ≠ A.pt ∧ A.p ≠ A.qt ∧ A.p ≠ A.pi ∧ A.p ≠ A.qi) ∧ (A.pa ≠ A.qa ∧ A.pa ≠ A.pt ∧ A.pa ≠ A.qt ∧ A.pa ≠ A.pi ∧ A.pa ≠ A.qi) ∧ (A.qa ≠ A.pt ∧ A.qa ≠ A.qt ∧ A.qa ≠ A.pi ∧ A.qa ≠ A.qi) ∧ (A.pt ≠ A.qt ∧ A.pt ≠ A.pi ∧ A.pt ≠ A.qi) ∧ (A.qt ≠ A.pi ∧ A.qt ≠ A.qi) ∧ A.pi ≠ A.qi := by
  have h := h.ap
  unfold LA.all at h
  simp only [List.nodup_cons, List.mem_cons, List.not_mem_nil, not_or, or_false, not_false_eq_true, List.nodup_nil, and_true] at h
  obtain ⟨h1, h2, h3, h4, h5, h6⟩ := h
  exact ⟨h1, h2, h3, h4, h5, h6⟩
theorem LsAt.lt (h : LsAt W w A c s) : A.p < w.heap.size ∧ A.pa < w.heap.size ∧ A.qa < w.heap.size ∧ A.pt < w.heap.size ∧ A.qt < w.heap.size ∧ A.pi < w.heap.size ∧ A.qi < w.heap.size := by
  obtain ⟨_, _, _, h1⟩ := h.ar
  obtain ⟨_, h2⟩ := h.tb
  obtain ⟨_, _, h3⟩ := h.se
  exact ⟨blk_lt h.box, blk_lt h1.box, h1.row.lt, blk_lt h2.box, h2.row.lt, blk_lt h3.box, h3.row.lt⟩
theorem LsAt.ge (h : LsAt W w A c s) : W.heap.size ≤ A.p ∧ W.heap.size ≤ A.pa ∧ W.heap.size ≤ A.qa ∧ W.heap.size ≤ A.pt ∧ W.heap.size ≤ A.qt ∧ W.heap.size ≤ A.pi ∧ W.heap.size ≤ A.qi := by
  refine ⟨h.hi _ ?_, h.hi _ ?_, h.hi _ ?_, h.hi _ ?_, h.hi _ ?_, h.hi _ ?_, h.hi _ ?_⟩ <;> simp [LA.all]
theorem LsAt.base_LT {w' : World} (h : LsAt W w A c s) (ht : Touch (LT A) w w') : Touch nob W w' := h.base.step ht (fun i hi => by
  obtain ⟨g1, g2, g3, g4, g5, g6, g7⟩ := h.ge
  right
  rcases hi with rfl | rfl | rfl | rfl <;> assumption)
theorem LsAt.touch {S : Nat → Prop} {w' : World} (h : LsAt W w A c s) (hb : Touch nob W w') (ht : Touch S w w') (h1 : ¬ S A.p) (h2 : ¬ S A.pa) (h3 : ¬ S A.qa) (h4 : ¬ S A.pt) (h5 : ¬ S A.qt) (h6 : ¬ S A.pi) (h7 : ¬ S A.qi) : LsAt W w' A c s := by
  obtain ⟨ca, lo, st, a⟩ := h.ar
  obtain ⟨ct, b⟩ := h.tb
  obtain ⟨ci, wi, d⟩ := h.se
  exact ⟨hb, h.hi, blk_touch h.box ht h1, ⟨ca, lo, st, a.touch ht h2 h3⟩, ⟨ct, b.touch ht h4 h5⟩, ⟨ci, wi, d.touch ht h6 h7⟩, h.len, h.wok, h.ap⟩
theorem LsAt.old {w' : World} (h : LsAt W w A c s) (ht : Touch nob w w') : LsAt W w' A c s := h.touch (h.base.trans ht) ht (fun x => x) (fun x => x) (fun x => x) (fun x => x) (fun x => x) (fun x => x) (fun x => x)
theorem box11 {w : World} {b : Nat} {v0 v1 v2 : Value} {f m : Nat → Int} {t : TypeId} (h : w.heap[b]? = some (.cells #[v0, v1, v2, .int .i64 (f 0), .int .i64 (f 1), .int .i64 (f 2), .int .i64 (f 3), .int .i64 (m 0), .int .i64 (m 1), .int .i64 (m 2), .int .i64 (m 3)] t)) :
    w.cell? ⟨b, 0, none⟩ = some v0 ∧ w.cell? ⟨b, 1, none⟩ = some v1 ∧ w.cell? ⟨b, 2, none⟩ = some v2 ∧ (∀ k, k < 4 → w.cell? ⟨b, 3 + k, none⟩ = some (.int .i64 (f k)) ∧ w.cell? ⟨b, 7 + k, none⟩ = some (.int .i64 (m k))) ∧ ∀ j, w.frozen? ⟨b, j, none⟩ = false := by
  refine ⟨?_, ?_, ?_, fun k hk => ?_, fun j => ?_⟩
  · simp [World.cell?, h]
  · simp [World.cell?, h]
  · simp [World.cell?, h]
  · rcases (show k = 0 ∨ k = 1 ∨ k = 2 ∨ k = 3 by omega) with rfl | rfl | rfl | rfl <;> simp [World.cell?, h]
  · simp [World.frozen?, h]
/-- What a word tells as the next one. -/
def nxtW (x : Int) : Int := match isLinkW x with | true => x % 72057594037927936 | false => 0
theorem header_NextV (x : Int) (h0 : 0 ≤ x) (h1 : Hid (x < 18446744073709551616)) (w : World) (hS : Sizes w) :
    Calls Tryz.prog 142 #[.int .u64 x] w fun e w' => e = .returned (.tuple #[.int .i64 (nxtW x), .bool (isLinkW x)]) ∧ w = w' :=
  (header_Next x h0 h1 w hS).mono fun e w' g => ⟨by rw [g.1]; unfold nxtW; cases isLinkW x <;> rfl, g.2⟩
/-- What lists lay as a link. -/
def lnkW (a : Int) : Int := match linkOk a with | true => hLink a | false => 0
theorem header_LinkV (a : Int) (w : World) :
    Calls Tryz.prog 125 #[.int .i64 a] w fun e w' => e = .returned (.tuple #[.int .u64 (lnkW a), .bool (linkOk a)]) ∧ w = w' :=
  (header_Link a w).mono fun e w' g => ⟨by rw [g.1]; unfold lnkW; cases linkOk a <;> rfl, g.2⟩
/-- Behind a load. -/
theorem LsAt.loaded {w' : World} {ca : Nat} {lo st : Int} (h : LsAt W w A c s) (hT : Touch (fun b => b = A.pa) w w') (hA : ArenaAt w' A.pa A.qa ca s.ws lo st) : LsAt W w' A c s := by
  obtain ⟨⟨n1, n2, n3, n4, n5, n6⟩, ⟨n7, n8, n9, n10, n11⟩, _⟩ := h.ne
  obtain ⟨ct, b⟩ := h.tb
  obtain ⟨ci, wi, d⟩ := h.se
  exact ⟨h.base_LT (hT.mono fun _ _ e => .inr (.inl e)), h.hi, blk_touch h.box hT n1, ⟨ca, _, st, hA⟩, ⟨ct, b.touch hT n8.symm n9.symm⟩, ⟨ci, wi, d.touch hT n10.symm n11.symm⟩, h.len, h.wok, h.ap⟩
theorem lists_next (j : Nat) (h : LsAt W w A c s) (hj : j < s.ws.length) (hL : Laid W) :
    Calls Tryz.prog 119 #[.pointer (some ⟨A.p, 0, none⟩), .int .i64 (j + 1)] w fun e w' => e = .returned (.int .i64 (nxtW (s.ws.getD j 0))) ∧ Touch (fun b => b = A.pa) w w' ∧ LsAt W w' A c s := by
  obtain ⟨d0, d1, d2, -, -⟩ := box11 h.box
  have hw := h.wok j hj
  have H := Lib.hid (And.intro h (And.intro hj hL))
  obtain ⟨x, hx⟩ : ∃ x, s.ws.getD j 0 = x := ⟨_, rfl⟩
  rw [hx] at hw
  rw [hx]
  have HX := Lib.hid hx
  obtain ⟨hw0, hw1⟩ := hw
  have HW := Lib.hid hw1
  clear h hj hL d1 d2 hx hw1
  go_enter Tryz.func119, Tryz.ntmps119
  go_wp2_with (go_at_call 75; fail)
  obtain ⟨ca, lo, st, ha⟩ := H.out.1.ar
  refine (arena_Load_ok _ _ ca _ lo st j w ha H.out.2.1).mono ?_
  rintro e w1 ⟨rfl, hT, hA⟩
  rw [HX.out]
  have HL := Lib.hid (And.intro hT (H.out.1.loaded hT hA))
  clear ha hT hA
  go_wp2_with (go_at_call 142; fail)
  refine (header_NextV x hw0 HW w1 (H.out.2.2.old HL.out.2.base).siz).mono ?_
  rintro e w2 ⟨rfl, rfl⟩
  go_wp2
  go_ret
  exact ⟨rfl, HL.out⟩
/-- One cell of four, turned. -/
def upd (f : Nat → Int) (k : Nat) (x : Int) : Nat → Int := fun j => if j = k then x else f j
/-- Behind Put of slot j + 1, of class k. -/
def LS.put (s : LS) (j k : Nat) : LS :=
  { s with ws := s.ws.set j (lnkW (s.f k)), M := fun x => if x = j + 1 then true else s.M x, f := upd s.f k (j + 1), m := upd s.m k (s.m k + 1) }
/-- Behind a Put into the set. -/
theorem LsAt.setP {w' : World} {ci : Nat} {wi : List Nat} {M : Nat → Bool} (h : LsAt W w A c s) (hT : Touch (fun b => b = A.qi) w w') (hA : SetAt w' A.pi A.qi ci wi (s.ws.length + 1) M) : LsAt W w' A c { s with M := M } := by
  obtain ⟨⟨n1, n2, n3, n4, n5, n6⟩, ⟨n7, n8, n9, n10, n11⟩, ⟨n12, n13, n14, n15⟩, ⟨n16, n17, n18⟩, ⟨n19, n20⟩, n21⟩ := h.ne
  obtain ⟨ca, lo, st, a⟩ := h.ar
  obtain ⟨ct, b⟩ := h.tb
  exact ⟨h.base_LT (hT.mono fun _ _ e => .inr (.inr (.inr e))), h.hi, blk_touch h.box hT n6, ⟨ca, lo, st, a.touch hT n11 n15⟩, ⟨ct, b.touch hT n18 n20⟩, ⟨ci, wi, hA⟩, h.len, h.wok, h.ap⟩
theorem set_PutV (j : Nat) (b : Bool) (h : LsAt W w A c s) (hj : j < s.ws.length) (hM : s.M (j + 1) ≠ b) :
    Calls Tryz.prog 87 #[.pointer (some ⟨A.pi, 0, none⟩), .int .i64 (j + 1), .bool b] w fun e w' => e = .returned (.bool true) ∧ Touch (fun b => b = A.qi) w w' ∧ LsAt W w' A c { s with M := fun x => if x = j + 1 then b else s.M x } := by
  obtain ⟨ci, wi, hd⟩ := h.se
  have := set_Put_ok (j + 1) b hd (by omega) hM
  rw [show ((j + 1 : Nat) : Int) = (j : Int) + 1 by omega] at this
  exact this.mono fun _ _ g => ⟨g.1, g.2.1, h.setP g.2.1 g.2.2⟩
theorem set_upd {f m : Nat → Int} {v0 v1 v2 : Value} (k : Nat) (hk : k < 4) (x y : Int) :
    ((#[v0, v1, v2, .int .i64 (f 0), .int .i64 (f 1), .int .i64 (f 2), .int .i64 (f 3), .int .i64 (m 0), .int .i64 (m 1), .int .i64 (m 2), .int .i64 (m 3)] : Array Value).setIfInBounds (3 + k) (.int .i64 x)).setIfInBounds (7 + k) (.int .i64 y) =
    #[v0, v1, v2, .int .i64 (upd f k x 0), .int .i64 (upd f k x 1), .int .i64 (upd f k x 2), .int .i64 (upd f k x 3), .int .i64 (upd m k y 0), .int .i64 (upd m k y 1), .int .i64 (upd m k y 2), .int .i64 (upd m k y 3)] := by
  rcases (show k = 0 ∨ k = 1 ∨ k = 2 ∨ k = 3 by omega) with rfl | rfl | rfl | rfl <;> rfl
theorem LsAt.set2 (h : LsAt W w A c s) (k : Nat) (hk : k < 4) (x y : Int) : LsAt W ((w.setCell ⟨A.p, 3 + k, none⟩ (.int .i64 x)).setCell ⟨A.p, 7 + k, none⟩ (.int .i64 y)).drew.drew A c { s with f := upd s.f k x, m := upd s.m k y } := by
  have hT : Touch (fun b => b = A.p) w ((w.setCell ⟨A.p, 3 + k, none⟩ (.int .i64 x)).setCell ⟨A.p, 7 + k, none⟩ (.int .i64 y)).drew.drew := by
    refine Touch.drew (Touch.drew ?_)
    refine Touch.setCell (S := fun b => b = A.p) ?_ (.inl rfl) _
    exact Touch.setCell (S := fun b => b = A.p) (Touch.refl _ _) (.inl rfl) _
  obtain ⟨ca, lo, st, a⟩ := h.ar
  obtain ⟨ct, b⟩ := h.tb
  obtain ⟨ci, wi, d⟩ := h.se
  obtain ⟨n1, n2, n3, n4, n5, n6⟩ := h.ne.1
  refine ⟨h.base_LT (hT.mono fun _ _ e => .inl e), h.hi, ?_, ⟨ca, lo, st, a.touch hT n1.symm n2.symm⟩, ⟨ct, b.touch hT n3.symm n4.symm⟩, ⟨ci, wi, d.touch hT n5.symm n6.symm⟩, h.len, h.wok, h.ap⟩
  show (((w.setCell ⟨A.p, 3 + k, none⟩ (.int .i64 x)).setCell ⟨A.p, 7 + k, none⟩ (.int .i64 y))).heap[A.p]? = _
  rw [set_cells (7 + k) _ (set_cells (3 + k) _ h.box), set_upd k hk]
theorem lnkW_bd (a : Int) : 0 ≤ lnkW a ∧ lnkW a < 18446744073709551616 := by
  unfold lnkW
  cases h : linkOk a
  · exact ⟨show (0 : Int) ≤ 0 from Int.le_refl 0, show (0 : Int) < 18446744073709551616 by decide⟩
  · obtain ⟨h1, h2, _⟩ := link_facts h
    exact ⟨h1, h2⟩
theorem getD_setJ {l : List Int} {i j : Nat} {x : Int} : (l.set i x).getD j 0 = if i = j ∧ i < l.length then x else l.getD j 0 := by
  rw [List.getD_eq_getElem?_getD, List.getD_eq_getElem?_getD, List.getElem?_set]
  by_cases hij : i = j
  · subst hij
    by_cases hi : i < l.length
    · simp [hi]
    · simp [hi]
  · simp [hij]
theorem arena_StoreV (j : Nat) (x : Int) (h : LsAt W w A c s) (hj : j < s.ws.length) (hx : 0 ≤ x ∧ x < 18446744073709551616) :
    Calls Tryz.prog 93 #[.pointer (some ⟨A.pa, 0, none⟩), .int .i64 (j + 1), .int .u64 x] w fun e w' => e = .returned (.int .i64 0) ∧ Touch (fun b => b = A.pa ∨ b = A.qa) w w' ∧ LsAt W w' A c { s with ws := s.ws.set j x } := by
  obtain ⟨ca, lo, st, ha⟩ := h.ar
  refine (arena_Store_ok _ _ ca _ lo st x j w ha hj).mono fun _ _ g => ⟨g.1, g.2.1, ?_⟩
  obtain ⟨ct, b⟩ := h.tb
  obtain ⟨ci, wi, d⟩ := h.se
  obtain ⟨⟨n1, n2, n3, n4, n5, n6⟩, ⟨n7, n8, n9, n10, n11⟩, ⟨n12, n13, n14, n15⟩, ⟨n16, n17, n18⟩, ⟨n19, n20⟩, n21⟩ := h.ne
  refine ⟨h.base_LT (g.2.1.mono fun i _ hi => hi.elim (fun e => .inr (.inl e)) (fun e => .inr (.inr (.inl e)))), h.hi, blk_touch h.box g.2.1 (not_or.2 ⟨n1, n2⟩), ⟨ca, _, _, g.2.2⟩, ⟨ct, b.touch g.2.1 (not_or.2 ⟨n8.symm, n12.symm⟩) (not_or.2 ⟨n9.symm, n13.symm⟩)⟩, ⟨ci, wi, ?_⟩, ?_, ?_, h.ap⟩
  · show SetAt _ _ _ _ _ ((s.ws.set j x).length + 1) _
    rw [List.length_set]
    exact d.touch g.2.1 (not_or.2 ⟨n10.symm, n14.symm⟩) (not_or.2 ⟨n11.symm, n15.symm⟩)
  · show ((s.ws.set j x).length : Int) = _
    rw [List.length_set]
    exact h.len
  · intro i hi
    rw [List.length_set] at hi
    show 0 ≤ (s.ws.set j x).getD i 0 ∧ (s.ws.set j x).getD i 0 < _
    rw [getD_setJ]
    split
    · exact hx
    · exact h.wok i hi
set_option maxHeartbeats 1000000 in
theorem lists_Put1_ok (j k bl ba : Nat) (h : LsAt W w A c s) (hj : j < s.ws.length) (hk : k < 4) (hM : s.M (j + 1) = false) (hm : 0 ≤ s.m k ∧ s.m k ≤ 2097152) (hbl : w.heap[bl]? = some (.cells #[.pointer (some ⟨A.p, 0, none⟩)] 98)) (hba : w.heap[ba]? = some (.cells #[.int .i64 (j + 1)] 3)) (hnb : bl ∉ A.all ∧ ba ∉ A.all) :
    Calls Tryz.prog 124 #[.int .i64 k, .pointer (some ⟨bl, 0, none⟩), .pointer (some ⟨ba, 0, none⟩)] w fun e w' => e = .returned (.int .i64 0) ∧ Touch (LT A) w w' ∧ LsAt W w' A c (s.put j k) := by
  obtain ⟨d0, d1, d2, d3, -⟩ := box11 h.box
  have HB := Lib.hid (fun w' (ht : Touch (LT A) w w') => show w'.heap[bl]? = some (.cells #[.pointer (some ⟨A.p, 0, none⟩)] 98) ∧ w'.heap[ba]? = some (.cells #[.int .i64 (j + 1)] 3) from by
    obtain ⟨hb1, hb2⟩ := hnb
    unfold LA.all at hb1 hb2
    simp only [List.mem_cons, List.not_mem_nil, or_false, not_or] at hb1 hb2
    exact ⟨blk_touch hbl ht (by unfold LT; omega), blk_touch hba ht (by unfold LT; omega)⟩)
  have H := Lib.hid (And.intro h (And.intro hj hM))
  have HS := Lib.hid (fun w' (ht : Touch (fun b => b = A.qi) w w') => show w'.cell? ⟨bl, 0, none⟩ = some (.pointer (some ⟨A.p, 0, none⟩)) ∧ w'.cell? ⟨ba, 0, none⟩ = some (.int .i64 (j + 1)) ∧ w'.cell? ⟨A.p, 2, none⟩ = some (.pointer (some ⟨A.pi, 0, none⟩)) from by
    obtain ⟨g1, g2⟩ := HB.out w' (ht.mono fun _ _ e => .inr (.inr (.inr e)))
    exact ⟨one_cell g1, one_cell g2, (ht.cell (blk_lt h.box) h.ne.1.2.2.2.2.2).trans d2⟩)
  clear h hj hM hbl hba hnb d0 d1 d2 d3
  obtain ⟨m0, m1⟩ := hm
  have hT0 := Touch.refl (fun b => b = A.qi) w
  have hki : (k : Int) < 4 := by omega
  go_enter Tryz.func124, Tryz.ntmps124
  go_wp2_with fail
  go_region_held3 (fun w' => w'.cell? ⟨bl, 0, none⟩ = some (.pointer (some ⟨A.p, 0, none⟩)) ∧ w'.cell? ⟨ba, 0, none⟩ = some (.int .i64 (j + 1)) ∧ w'.cell? ⟨A.p, 2, none⟩ = some (.pointer (some ⟨A.pi, 0, none⟩))) (first | exact HS.out _ (by first | assumption | exact hT0.drew)) (first
    | (go_at_call 87; refine (set_PutV j true (H.out.1.old (Touch.drew (Touch.refl _ _))) H.out.2.1 (by rw [H.out.2.2]; simp)).mono ?_; rintro e w1 ⟨rfl, hT1', h1⟩; have hT1 := hT0.drew.trans hT1'; have H1 := Lib.hid h1; clear hT1' h1))
  obtain ⟨cl, cb, -⟩ := HS.out _ hT1
  have HT1 := Lib.hid (hT1.mono (S' := LT A) fun _ _ e => .inr (.inr (.inr e)))
  clear hT0 hT1 HS
  obtain ⟨d0, -, -, d3, d4⟩ := box11 H1.out.box
  obtain ⟨df, dm⟩ := d3 k hk
  simp only [] at df dm
  have hf1 := d4 (3 + k)
  have hf2 := d4 (7 + k)
  clear d3 d4
  go_wp2_with (go_at_call 125; fail)
  refine (header_LinkV _ w1).mono ?_
  rintro e w2 ⟨rfl, rfl⟩
  go_wp2
  go_region
  all_goals
    go_wp2
    go_region
  all_goals
    go_wp2_with fail
    obtain ⟨W5, hW5⟩ : ∃ W5, W5 = ((w1.setCell ⟨A.p, 3 + k, none⟩ (.int .i64 (j + 1))).setCell ⟨A.p, 7 + k, none⟩ (.int .i64 (s.m k + 1))).drew.drew := ⟨_, rfl⟩
    rw [← hW5]
    have H5 : Hid (LsAt W W5 A c { s with M := fun x => if x = j + 1 then true else s.M x, f := upd s.f k (j + 1), m := upd s.m k (s.m k + 1) }) := by
      rw [hW5]; exact H1.out.set2 k hk _ _
    have hT5 : Touch (LT A) w W5 := by
      rw [hW5]
      exact (((HT1.out.setCell (.inl (.inl rfl)) _).setCell (.inl (.inl rfl)) _).drew).drew
    have HS := Lib.hid (fun w' (ht : Touch (fun b => b = A.pa ∨ b = A.qa) W5 w') => show w'.cell? ⟨bl, 0, none⟩ = some (.pointer (some ⟨A.p, 0, none⟩)) ∧ w'.cell? ⟨ba, 0, none⟩ = some (.int .i64 (j + 1)) ∧ w'.cell? ⟨A.p, 0, none⟩ = some (.pointer (some ⟨A.pa, 0, none⟩)) from by
      obtain ⟨g1, g2⟩ := HB.out w' (hT5.step ht (fun i hi => .inl (hi.elim (fun e => .inr (.inl e)) (fun e => .inr (.inr (.inl e))))))
      exact ⟨one_cell g1, one_cell g2, (ht.cell (blk_lt H5.out.box) (not_or.2 ⟨H5.out.ne.1.1, H5.out.ne.1.2.1⟩)).trans (box11 H5.out.box).1⟩)
    have HT5 := Lib.hid hT5
    have hT0 := Touch.refl (fun b => b = A.pa ∨ b = A.qa) W5
    clear hW5 hT5 d0 df dm hf1 hf2 cl cb
    go_region_held3 (fun w' => w'.cell? ⟨bl, 0, none⟩ = some (.pointer (some ⟨A.p, 0, none⟩)) ∧ w'.cell? ⟨ba, 0, none⟩ = some (.int .i64 (j + 1)) ∧ w'.cell? ⟨A.p, 0, none⟩ = some (.pointer (some ⟨A.pa, 0, none⟩))) (first | exact HS.out _ (by first | assumption | exact hT0.drew)) (first
      | (go_at_call 93; refine (arena_StoreV j (lnkW (s.f k)) (H5.out.old (Touch.drew (Touch.refl _ _))) H.out.2.1 (lnkW_bd _)).mono ?_; rintro e w6 ⟨rfl, hT6', h6⟩; have hT6 := hT0.drew.trans hT6'; have H6 := Lib.hid h6; clear hT6' h6))
    go_wp2
    go_ret
    exact ⟨rfl, HT5.out.trans (hT6.mono fun i _ hi => hi.elim (fun e => .inr (.inl e)) (fun e => .inr (.inr (.inl e)))), H6.out⟩
end Go.Proofs.YtflhjbmoncbomaaGreatDoor
namespace Go.Proofs.YtflhjbmoncbomaaGreatDoor
open Go.RowKit

theorem nodup_le : ∀ (n : Nat) (L : List Nat), L.Nodup → (∀ j ∈ L, j < n) → L.length ≤ n
  | 0, [], _, _ => Nat.le_refl _
  | 0, x :: _, _, h => absurd (h x (List.mem_cons_self ..)) (Nat.not_lt_zero _)
  | n + 1, L, hd, h => by
    by_cases hm : n ∈ L
    · have h1 := nodup_le n (L.erase n) (hd.erase n) (fun j hj => by
        obtain ⟨h2, h3⟩ := (List.Nodup.mem_erase_iff hd).1 hj
        have := h j h3
        omega)
      rw [List.length_erase_of_mem hm] at h1
      omega
    · have h1 := nodup_le n L hd (fun j hj => by
        have := h j hj
        have : j ≠ n := fun e => hm (e ▸ hj)
        omega)
      omega
theorem nxt_lnk {a : Int} (h0 : 0 ≤ a) (h1 : a ≤ 1048576) : nxtW (lnkW a) = a ∧ isLinkW (lnkW a) = true := by
  have hl : linkOk a = true := linkOk_iff.2 ⟨h0, h1⟩
  obtain ⟨_, _, h2, _, h3, _⟩ := link_facts hl
  have e : lnkW a = hLink a := by unfold lnkW; rw [hl]
  rw [e]
  refine ⟨?_, h2⟩
  unfold nxtW
  rw [h2]
  exact h3
/-- From an address on, the slots of this list are threaded. -/
def Thr (ws : List Int) : Int → List Nat → Prop
  | a, [] => a = 0
  | a, j :: L => a = j + 1 ∧ j < ws.length ∧ isLinkW (ws.getD j 0) = true ∧ Thr ws (nxtW (ws.getD j 0)) L
theorem Thr.lt {ws : List Int} : ∀ {a : Int} {L : List Nat}, Thr ws a L → ∀ j ∈ L, j < ws.length
  | _, [], _, _, hj => by cases hj
  | _, _ :: _, h, i, hi => by
    rcases List.mem_cons.1 hi with rfl | hi
    · exact h.2.1
    · exact Thr.lt h.2.2.2 i hi
theorem Thr.set {ws : List Int} {i : Nat} {x : Int} : ∀ {a : Int} {L : List Nat}, Thr ws a L → i ∉ L → Thr (ws.set i x) a L
  | _, [], h, _ => h
  | _, j :: _, h, hi => by
    obtain ⟨h1, h2, h3, h4⟩ := h
    have hij : i ≠ j := fun e => hi (e ▸ List.mem_cons_self ..)
    have e : (ws.set i x).getD j 0 = ws.getD j 0 := by rw [getD_setJ, if_neg (fun h => hij h.1)]
    refine ⟨h1, by rw [List.length_set]; exact h2, by rw [e]; exact h3, ?_⟩
    rw [e]
    exact h4.set (fun hh => hi (List.mem_cons_of_mem _ hh))
theorem Thr.head {ws : List Int} {a : Int} {L : List Nat} (h : Thr ws a L) : a = match L with | [] => 0 | j :: _ => (j : Int) + 1 := by
  cases L
  · exact h
  · exact h.1
theorem Thr.bd {ws : List Int} {a : Int} {L : List Nat} (h : Thr ws a L) : 0 ≤ a ∧ a ≤ ws.length := by
  cases L with
  | nil => have : a = 0 := h; omega
  | cons j L => have := h.1; have := h.2.1; omega
theorem Thr.put {ws : List Int} {a : Int} {L : List Nat} {j : Nat} (h : Thr ws a L) (hj : j < ws.length) (hn : j ∉ L) (hw : ws.length ≤ 1048576) : Thr (ws.set j (lnkW a)) (j + 1) (j :: L) := by
  obtain ⟨b0, b1⟩ := h.bd
  obtain ⟨e1, e2⟩ := nxt_lnk b0 (by omega)
  have e : (ws.set j (lnkW a)).getD j 0 = lnkW a := by rw [getD_setJ, if_pos ⟨rfl, hj⟩]
  refine ⟨rfl, by rw [List.length_set]; exact hj, by rw [e]; exact e2, ?_⟩
  rw [e, e1]
  exact h.set hn
/-- The class of an address's block. -/
def clsA (c : Cf) (ks : List Int) (a : Int) : Int := ks.getD ((a - 1) / c.c1).toNat 0
def updH (H : Nat → List Nat) (k : Nat) (L : List Nat) : Nat → List Nat := fun i => if i = k then L else H i
/-- What is in the lists. -/
structure LInv (c : Cf) (s : LS) (H : Nat → List Nat) : Prop where
  thr : ∀ k, k < 4 → Thr s.ws (s.f k) (H k)
  cls : ∀ k, k < 4 → ∀ j ∈ H k, ownB c s.ks (j + 1) = true ∧ clsA c s.ks (j + 1) = k
  nd : ∀ k, k < 4 → (H k).Nodup
  mem : ∀ j, j < s.ws.length → (s.M (j + 1) = true ↔ ∃ k, k < 4 ∧ j ∈ H k)
  zero : s.M 0 = false
  many : ∀ k, k < 4 → s.m k = (H k).length
  wle : s.ws.length ≤ 1048576
variable {c : Cf} {s : LS} {H : Nat → List Nat}
theorem LInv.start (ws ks : List Int) (hw : ws.length ≤ 1048576) : LInv c ⟨ws, ks, fun _ => false, fun _ => 0, fun _ => 0⟩ (fun _ => []) :=
  ⟨fun _ _ => rfl, fun _ _ _ hj => (List.not_mem_nil hj).elim, fun _ _ => List.nodup_nil, fun _ _ => ⟨fun h => (Bool.noConfusion h), fun ⟨_, ⟨_, h⟩⟩ => (List.not_mem_nil h).elim⟩, rfl, fun _ _ => rfl, hw⟩
theorem LInv.len_le (h : LInv c s H) {k : Nat} (hk : k < 4) : (H k).length ≤ s.ws.length := nodup_le _ _ (h.nd k hk) (fun j hj => (h.thr k hk).lt j hj)
/-- A slot is in the list of its class, or in none. -/
theorem LInv.of_own (h : LInv c s H) {j k : Nat} (hk : k < 4) (hj : j < s.ws.length) (hc : clsA c s.ks (j + 1) = k) : s.M (j + 1) = true ↔ j ∈ H k := by
  rw [h.mem j hj]
  refine ⟨fun ⟨i, hi, hm⟩ => ?_, fun hm => ⟨k, hk, hm⟩⟩
  have h1 := (h.cls i hi j hm).2
  rw [hc] at h1
  obtain rfl : k = i := by omega
  exact hm
theorem LInv.put (h : LInv c s H) {j k : Nat} (hk : k < 4) (hj : j < s.ws.length) (ho : ownB c s.ks (j + 1) = true) (hc : clsA c s.ks (j + 1) = k) (hM : s.M (j + 1) = false) : LInv c (s.put j k) (updH H k (j :: H k)) := by
  have hno : ∀ i, i < 4 → j ∉ H i := fun i hi hm => by
    rw [(h.mem j hj).2 ⟨i, hi, hm⟩] at hM
    cases hM
  refine ⟨fun i hi => ?_, fun i hi x hx => ?_, fun i hi => ?_, fun x hx => ?_, ?_, fun i hi => ?_, ?_⟩
  · show Thr (s.ws.set j _) (upd s.f k (j + 1) i) (updH H k (j :: H k) i)
    unfold upd updH
    split
    · exact (h.thr k hk).put hj (hno k hk) h.wle
    · exact (h.thr i hi).set (hno i hi)
  · unfold updH at hx
    split at hx
    · rename_i e
      subst e
      rcases List.mem_cons.1 hx with rfl | hx
      · exact ⟨ho, hc⟩
      · exact h.cls i hi x hx
    · exact h.cls i hi x hx
  · unfold updH
    split
    · exact List.nodup_cons.2 ⟨hno k hk, h.nd k hk⟩
    · exact h.nd i hi
  · have hx' : x < s.ws.length := by
      have e : (s.put j k).ws.length = s.ws.length := List.length_set
      omega
    show (if x + 1 = j + 1 then true else s.M (x + 1)) = true ↔ _
    by_cases e : x = j
    · subst e
      rw [if_pos rfl]
      exact ⟨fun _ => ⟨k, hk, by unfold updH; rw [if_pos rfl]; exact List.mem_cons_self ..⟩, fun _ => rfl⟩
    · rw [if_neg (by omega), h.mem x hx']
      refine ⟨fun ⟨i, hi, hm⟩ => ⟨i, hi, ?_⟩, fun ⟨i, hi, hm⟩ => ⟨i, hi, ?_⟩⟩
      · unfold updH
        split
        · rename_i e2
          exact List.mem_cons_of_mem _ (e2 ▸ hm)
        · exact hm
      · unfold updH at hm
        split at hm
        · rename_i e2
          rcases List.mem_cons.1 hm with h1 | h1
          · exact absurd h1 e
          · exact e2 ▸ h1
        · exact hm
  · show (if 0 = j + 1 then true else s.M 0) = false
    rw [if_neg (by omega)]
    exact h.zero
  · show upd s.m k (s.m k + 1) i = _
    unfold upd updH
    split
    · rename_i e
      subst e
      rw [h.many i hi]
      simp
    · exact h.many i hi
  · show (s.ws.set j _).length ≤ _
    rw [List.length_set]
    exact h.wle
/-- Behind Take of class k's first slot j + 1. -/
def LS.tak (s : LS) (j k : Nat) : LS :=
  { s with M := fun x => if x = j + 1 then false else s.M x, f := upd s.f k (nxtW (s.ws.getD j 0)), m := upd s.m k (s.m k - 1) }
theorem LInv.tak (h : LInv c s H) {j k : Nat} {L : List Nat} (hk : k < 4) (hL : H k = j :: L) : LInv c (s.tak j k) (updH H k L) := by
  have hT := h.thr k hk
  have hN := h.nd k hk
  have hmm := h.many k hk
  rw [hL] at hT hN hmm
  obtain ⟨t1, t2, t3, t4⟩ := hT
  obtain ⟨n1, n2⟩ := List.nodup_cons.1 hN
  have hcj := (h.cls k hk j (by rw [hL]; exact List.mem_cons_self ..)).2
  refine ⟨fun i hi => ?_, fun i hi x hx => ?_, fun i hi => ?_, fun x hx => ?_, ?_, fun i hi => ?_, h.wle⟩
  · show Thr s.ws (upd s.f k _ i) (updH H k L i)
    unfold upd updH
    split
    · exact t4
    · exact h.thr i hi
  · unfold updH at hx
    split at hx
    · rename_i e
      subst e
      exact h.cls i hi x (by rw [hL]; exact List.mem_cons_of_mem _ hx)
    · exact h.cls i hi x hx
  · unfold updH
    split
    · exact n2
    · exact h.nd i hi
  · have hx' : x < s.ws.length := hx
    show (if x + 1 = j + 1 then false else s.M (x + 1)) = true ↔ _
    by_cases e : x = j
    · subst e
      rw [if_pos rfl]
      refine ⟨fun hh => (nomatch hh), fun ⟨i, hi, hm⟩ => ?_⟩
      unfold updH at hm
      split at hm
      · exact absurd hm n1
      · rename_i e2
        have h1 := (h.cls i hi x hm).2
        rw [hcj] at h1
        omega
    · rw [if_neg (by omega), h.mem x hx']
      refine ⟨fun ⟨i, hi, hm⟩ => ⟨i, hi, ?_⟩, fun ⟨i, hi, hm⟩ => ⟨i, hi, ?_⟩⟩
      · unfold updH
        split
        · rename_i e2
          subst e2
          rw [hL] at hm
          rcases List.mem_cons.1 hm with h1 | h1
          · exact absurd h1 e
          · exact h1
        · exact hm
      · unfold updH at hm
        split at hm
        · rename_i e2
          subst e2
          rw [hL]
          exact List.mem_cons_of_mem _ hm
        · exact hm
  · show (if 0 = j + 1 then false else s.M 0) = false
    rw [if_neg (by omega)]
    exact h.zero
  · show upd s.m k (s.m k - 1) i = _
    unfold upd updH
    split
    · rename_i e
      subst e
      rw [hmm]
      simp
    · exact h.many i hi
theorem clsA_nat {j : Nat} (hc : c.ok = true) (ho : ownB c s.ks (j + 1) = true) : ∃ k : Nat, k < 4 ∧ clsA c s.ks (j + 1) = k := by
  obtain ⟨b, h1, _, _, h4, _⟩ := mem_of_own hc ho
  obtain ⟨k0, k1⟩ := isCls_iff.1 h4
  refine ⟨(s.ks.getD b 0).toNat, by omega, ?_⟩
  unfold clsA
  rw [h1]
  show s.ks.getD b 0 = _
  omega
theorem own_bd {a : Int} {ks : List Int} (ho : ownB c ks a = true) : 1 ≤ a ∧ a ≤ c.c0 * c.c1 := by
  unfold ownB at ho
  simp only [Bool.and_eq_true, decide_eq_true_eq] at ho
  obtain ⟨_, a1, a2⟩ := blkOk_iff.1 ho.1
  exact ⟨a1, a2⟩
end Go.Proofs.YtflhjbmoncbomaaGreatDoor
namespace Go.Proofs.YtflhjbmoncbomaaGreatDoor
open Go.RowKit

variable {W w : World} {A : LA} {c : Cf} {s : LS} {H : Nat → List Nat}
theorem isCls_nat {k : Nat} (hk : k < 4) : isCls (k : Int) = true := isCls_iff.2 ⟨by omega, by omega⟩
theorem lists_Put_ok (j k : Nat) (h : LsAt W w A c s) (hj : j < s.ws.length) (ho : ownB c s.ks (j + 1) = true) (hk : k < 4) (hc : clsA c s.ks (j + 1) = k) (hM : s.M (j + 1) = false) (hm : 0 ≤ s.m k ∧ s.m k ≤ 2097152) (hL : Laid W) :
    Calls Tryz.prog 90 #[.pointer (some ⟨A.p, 0, none⟩), .int .i64 (j + 1)] w fun e w' => e = .returned (.int .i64 0) ∧ Touch (LT A) w w' ∧ LsAt W w' A c (s.put j k) := by
  have hmf := hmkf
  have H := Lib.hid (And.intro h (And.intro hL (And.intro hj (And.intro hM (And.intro ho (And.intro hc (And.intro hk hm)))))))
  clear h hL hj ho hk hc hM hm
  go_enter Tryz.func90, Tryz.ntmps90
  go_wp2_with fail
  obtain ⟨W1, hW1⟩ : ∃ W1, W1 = (w.alloc (Obj.cells #[.pointer (some ⟨A.p, 0, none⟩)] 98)).alloc (Obj.cells #[.int .i64 (j + 1)] 3) := ⟨_, rfl⟩
  obtain ⟨b, hb⟩ : ∃ b, b = w.heap.size := ⟨_, rfl⟩
  rw [← hW1, ← hb]
  have hx0 : W1.heap[b]? = some (.cells #[.pointer (some ⟨A.p, 0, none⟩)] 98) := by rw [hW1, hb]; exact alloc2_0 w _ _
  have hx1 : W1.heap[b + 1]? = some (.cells #[.int .i64 (j + 1)] 3) := by rw [hW1, hb]; exact alloc2_1 w _ _
  have hT1 : Touch nob w W1 := by rw [hW1]; (repeat (first | with_reducible exact Touch.refl _ _ | with_reducible assumption | with_reducible apply Touch.alloc | with_reducible apply Touch.drewN | with_reducible apply Touch.drew | with_reducible refine Touch.setCell ?_ (.inr (by first | omega | (simp; done) | (simp; omega))) _))
  obtain ⟨c0, f0⟩ := box1 hx0
  obtain ⟨c1, f1⟩ := box1 hx1
  obtain ⟨ct, hbt⟩ := (H.out.1.old hT1).tb
  obtain ⟨d0, d1, -, -, -⟩ := box11 (H.out.1.old hT1).box
  have HX := Lib.hid (And.intro hT1 (And.intro hx0 (And.intro hx1 (And.intro hbt (And.intro hb trivial)))))
  clear hT1 hx0 hx1 hbt hb hW1 d0
  go_wp2_with (go_at_call 123; fail)
  go_enter Tryz.func123, Tryz.ntmps123
  go_wp2_with (go_at_call 126; fail)
  refine (blk_Owner _ HX.out.2.2.2.1 (H.out.2.1.old (H.out.1.old HX.out.1).base).lim (H.out.2.1.old (H.out.1.old HX.out.1).base).siz).mono ?_
  rintro e W2 ⟨rfl, hT2⟩
  obtain ⟨X, hX⟩ : ∃ X, (((j : Int) + 1) - 1) / c.c1 = X := ⟨_, rfl⟩
  have hc := H.out.2.2.2.2.2.1
  unfold clsA at hc
  rw [hX] at hc
  rw [H.out.2.2.2.2.1, show owV c s.ks ((j : Int) + 1) true = .tuple #[.int .i64 X, .int .i64 k, .bool true] by unfold owV; rw [hX, hc]]
  clear hX hc c0 f0 c1 f1 d1
  have hy0 := blk_touch HX.out.2.1 hT2 (fun x => x)
  have hy1 := blk_touch HX.out.2.2.1 hT2 (fun x => x)
  have H2 := Lib.hid (And.intro (HX.out.1.trans hT2) (And.intro hy0 hy1))
  clear hT2 hy0 hy1
  go_wp2_with (go_at_call 124; fail)
  refine (lists_Put1_ok j k b (b + 1) (H.out.1.old H2.out.1) H.out.2.2.1 H.out.2.2.2.2.2.2.1 H.out.2.2.2.1 H.out.2.2.2.2.2.2.2 H2.out.2.1 H2.out.2.2 ⟨?_, ?_⟩).mono ?_
  · intro hb
    have h1 := H.out.1.lt
    have h2 := HX.out.2.2.2.2.1
    unfold LA.all at hb
    simp only [List.mem_cons, List.not_mem_nil, or_false] at hb
    omega
  · intro hb
    have h1 := H.out.1.lt
    have h2 := HX.out.2.2.2.2.1
    unfold LA.all at hb
    simp only [List.mem_cons, List.not_mem_nil, or_false] at hb
    omega
  rintro e W3 ⟨rfl, hT3, h3⟩
  have H3 := Lib.hid (And.intro ((H2.out.1.mono (fun _ _ x => x.elim)).trans hT3) h3)
  clear hT3 h3
  go_wp2
  go_ret
  exact ⟨rfl, H3.out⟩
theorem lists_Put_no (a : Int) (h : LsAt W w A c s) (ho : ownB c s.ks a = false) (hL : Laid W) :
    Calls Tryz.prog 90 #[.pointer (some ⟨A.p, 0, none⟩), .int .i64 a] w fun e w' => e = .returned (.int .i64 1) ∧ Touch nob w w' := by
  have hmf := hmkf
  have H := Lib.hid (And.intro h (And.intro hL ho))
  clear h hL ho
  go_enter Tryz.func90, Tryz.ntmps90
  go_wp2_with fail
  obtain ⟨W1, hW1⟩ : ∃ W1, W1 = (w.alloc (Obj.cells #[.pointer (some ⟨A.p, 0, none⟩)] 98)).alloc (Obj.cells #[.int .i64 a] 3) := ⟨_, rfl⟩
  obtain ⟨b, hb⟩ : ∃ b, b = w.heap.size := ⟨_, rfl⟩
  rw [← hW1, ← hb]
  have hx0 : W1.heap[b]? = some (.cells #[.pointer (some ⟨A.p, 0, none⟩)] 98) := by rw [hW1, hb]; exact alloc2_0 w _ _
  have hx1 : W1.heap[b + 1]? = some (.cells #[.int .i64 a] 3) := by rw [hW1, hb]; exact alloc2_1 w _ _
  have hT1 : Touch nob w W1 := by rw [hW1]; (repeat (first | with_reducible exact Touch.refl _ _ | with_reducible assumption | with_reducible apply Touch.alloc | with_reducible apply Touch.drewN | with_reducible apply Touch.drew | with_reducible refine Touch.setCell ?_ (.inr (by first | omega | (simp; done) | (simp; omega))) _))
  obtain ⟨c0, f0⟩ := box1 hx0
  obtain ⟨c1, f1⟩ := box1 hx1
  obtain ⟨ct, hbt⟩ := (H.out.1.old hT1).tb
  obtain ⟨d0, d1, -, -, -⟩ := box11 (H.out.1.old hT1).box
  have HX := Lib.hid (And.intro hT1 (And.intro hbt trivial))
  clear hT1 hx0 hx1 hbt hb hW1 d0
  go_wp2_with (go_at_call 123; fail)
  go_enter Tryz.func123, Tryz.ntmps123
  go_wp2_with (go_at_call 126; fail)
  refine (blk_Owner _ HX.out.2.1 (H.out.2.1.old (H.out.1.old HX.out.1).base).lim (H.out.2.1.old (H.out.1.old HX.out.1).base).siz).mono ?_
  rintro e W2 ⟨rfl, hT2⟩
  rw [H.out.2.2, show owV c s.ks a false = .tuple #[.int .i64 0, .int .i64 0, .bool false] from rfl]
  have H2 := Lib.hid (HX.out.1.trans hT2)
  clear hT2 c0 f0 c1 f1 d1
  go_wp2
  go_ret
  exact ⟨rfl, H2.out⟩
theorem set_PutIn (j : Nat) (b : Bool) (h : LsAt W w A c s) (hj : j < s.ws.length) (hM : s.M (j + 1) = b) :
    Calls Tryz.prog 87 #[.pointer (some ⟨A.pi, 0, none⟩), .int .i64 (j + 1), .bool b] w fun e w' => e = .returned (.bool false) ∧ w = w' := by
  obtain ⟨ci, wi, hd⟩ := h.se
  have := set_Put_same (j + 1) b hd (by omega) hM
  rw [show ((j + 1 : Nat) : Int) = (j : Int) + 1 by omega] at this
  exact this
theorem lists_Put1_in (j k bl ba : Nat) (h : LsAt W w A c s) (hj : j < s.ws.length) (hM : s.M (j + 1) = true) (hbl : w.heap[bl]? = some (.cells #[.pointer (some ⟨A.p, 0, none⟩)] 98)) (hba : w.heap[ba]? = some (.cells #[.int .i64 (j + 1)] 3)) :
    Calls Tryz.prog 124 #[.int .i64 k, .pointer (some ⟨bl, 0, none⟩), .pointer (some ⟨ba, 0, none⟩)] w fun e w' => e = .returned (.int .i64 11) ∧ Touch nob w w' := by
  obtain ⟨d0, d1, d2, d3, -⟩ := box11 h.box
  obtain ⟨c0, f0⟩ := box1 hbl
  obtain ⟨c1, f1⟩ := box1 hba
  have H := Lib.hid (And.intro h (And.intro hj hM))
  have HS := Lib.hid (fun w' (ht : Touch nob w w') => show w'.cell? ⟨bl, 0, none⟩ = some (.pointer (some ⟨A.p, 0, none⟩)) ∧ w'.cell? ⟨ba, 0, none⟩ = some (.int .i64 (j + 1)) ∧ w'.cell? ⟨A.p, 2, none⟩ = some (.pointer (some ⟨A.pi, 0, none⟩)) from
    ⟨(ht.cell (blk_lt hbl) (fun x => x)).trans c0, (ht.cell (blk_lt hba) (fun x => x)).trans c1, (ht.cell (blk_lt h.box) (fun x => x)).trans d2⟩)
  clear h hj hM hbl hba d0 d1 d2 d3 c0 c1 f0 f1
  have hT0 := Touch.refl nob w
  go_enter Tryz.func124, Tryz.ntmps124
  go_wp2_with fail
  go_region_held3 (fun w' => w'.cell? ⟨bl, 0, none⟩ = some (.pointer (some ⟨A.p, 0, none⟩)) ∧ w'.cell? ⟨ba, 0, none⟩ = some (.int .i64 (j + 1)) ∧ w'.cell? ⟨A.p, 2, none⟩ = some (.pointer (some ⟨A.pi, 0, none⟩))) (first | exact HS.out _ (by first | assumption | exact hT0.drew)) (first
    | (go_at_call 87; refine (set_PutIn j true (H.out.1.old (Touch.drew (Touch.refl _ _))) H.out.2.1 H.out.2.2).mono ?_; rintro e w1 ⟨rfl, hw1⟩; have hT1 : Touch nob w w1 := hw1 ▸ hT0.drew; clear hw1))
  go_wp2
  go_ret
  exact ⟨rfl, hT1⟩
theorem lists_Put_in (j k : Nat) (h : LsAt W w A c s) (hj : j < s.ws.length) (ho : ownB c s.ks (j + 1) = true) (hc : clsA c s.ks (j + 1) = k) (hM : s.M (j + 1) = true) (hL : Laid W) :
    Calls Tryz.prog 90 #[.pointer (some ⟨A.p, 0, none⟩), .int .i64 (j + 1)] w fun e w' => e = .returned (.int .i64 11) ∧ Touch nob w w' := by
  have hmf := hmkf
  have H := Lib.hid (And.intro h (And.intro hL (And.intro hj (And.intro hM (And.intro ho hc)))))
  clear h hL hj ho hc hM
  go_enter Tryz.func90, Tryz.ntmps90
  go_wp2_with fail
  obtain ⟨W1, hW1⟩ : ∃ W1, W1 = (w.alloc (Obj.cells #[.pointer (some ⟨A.p, 0, none⟩)] 98)).alloc (Obj.cells #[.int .i64 (j + 1)] 3) := ⟨_, rfl⟩
  obtain ⟨b, hb⟩ : ∃ b, b = w.heap.size := ⟨_, rfl⟩
  rw [← hW1, ← hb]
  have hx0 : W1.heap[b]? = some (.cells #[.pointer (some ⟨A.p, 0, none⟩)] 98) := by rw [hW1, hb]; exact alloc2_0 w _ _
  have hx1 : W1.heap[b + 1]? = some (.cells #[.int .i64 (j + 1)] 3) := by rw [hW1, hb]; exact alloc2_1 w _ _
  have hT1 : Touch nob w W1 := by rw [hW1]; (repeat (first | with_reducible exact Touch.refl _ _ | with_reducible assumption | with_reducible apply Touch.alloc | with_reducible apply Touch.drewN | with_reducible apply Touch.drew | with_reducible refine Touch.setCell ?_ (.inr (by first | omega | (simp; done) | (simp; omega))) _))
  obtain ⟨c0, f0⟩ := box1 hx0
  obtain ⟨c1, f1⟩ := box1 hx1
  obtain ⟨ct, hbt⟩ := (H.out.1.old hT1).tb
  obtain ⟨d0, d1, -, -, -⟩ := box11 (H.out.1.old hT1).box
  have HX := Lib.hid (And.intro hT1 (And.intro hx0 (And.intro hx1 (And.intro hbt trivial))))
  clear hT1 hx0 hx1 hbt hb hW1 d0
  go_wp2_with (go_at_call 123; fail)
  go_enter Tryz.func123, Tryz.ntmps123
  go_wp2_with (go_at_call 126; fail)
  refine (blk_Owner _ HX.out.2.2.2.1 (H.out.2.1.old (H.out.1.old HX.out.1).base).lim (H.out.2.1.old (H.out.1.old HX.out.1).base).siz).mono ?_
  rintro e W2 ⟨rfl, hT2⟩
  obtain ⟨X, hX⟩ : ∃ X, (((j : Int) + 1) - 1) / c.c1 = X := ⟨_, rfl⟩
  have hc := H.out.2.2.2.2.2
  unfold clsA at hc
  rw [hX] at hc
  rw [H.out.2.2.2.2.1, show owV c s.ks ((j : Int) + 1) true = .tuple #[.int .i64 X, .int .i64 k, .bool true] by unfold owV; rw [hX, hc]]
  clear hX hc c0 f0 c1 f1 d1
  have hy0 := blk_touch HX.out.2.1 hT2 (fun x => x)
  have hy1 := blk_touch HX.out.2.2.1 hT2 (fun x => x)
  have H2 := Lib.hid (And.intro (HX.out.1.trans hT2) (And.intro hy0 hy1))
  clear hT2 hy0 hy1
  go_wp2_with (go_at_call 124; fail)
  refine (lists_Put1_in j k b (b + 1) (H.out.1.old H2.out.1) H.out.2.2.1 H.out.2.2.2.1 H2.out.2.1 H2.out.2.2).mono ?_
  rintro e W3 ⟨rfl, hT3⟩
  have H3 := Lib.hid (H2.out.1.trans hT3)
  clear hT3
  go_wp2
  go_ret
  exact ⟨rfl, H3.out⟩
theorem lists_Has (a : Int) (h : LsAt W w A c s) :
    Calls Tryz.prog 127 #[.pointer (some ⟨A.p, 0, none⟩), .int .i64 a] w fun e w' => e = .returned (.bool (hasB s.M (s.ws.length + 1) a)) ∧ w = w' := by
  obtain ⟨-, -, d2, -, -⟩ := box11 h.box
  obtain ⟨ci, wi, hd⟩ := h.se
  have HD := Lib.hid hd
  clear hd h
  go_enter Tryz.func127, Tryz.ntmps127
  go_wp2_with (go_at_call 76; fail)
  refine (set_Has a HD.out).mono ?_
  rintro e w1 ⟨rfl, rfl⟩
  go_wp2
  go_ret
  exact ⟨rfl, rfl⟩
theorem lists_First (k : Nat) (hk : k < 4) (h : LsAt W w A c s) :
    Calls Tryz.prog 136 #[.pointer (some ⟨A.p, 0, none⟩), .int .i64 k] w fun e w' => e = .returned (.int .i64 (s.f k)) ∧ w = w' := by
  obtain ⟨-, -, -, d3, -⟩ := box11 h.box
  obtain ⟨dm, -⟩ := d3 k hk
  have hki : (k : Int) < 4 := by omega
  have HK := Lib.hid (isCls_nat hk)
  clear d3 h hk
  go_enter Tryz.func136, Tryz.ntmps136
  go_wp2_with (go_at_call 118; fail)
  refine (class_Is _ _).mono ?_
  rintro e w1 ⟨rfl, rfl⟩
  rw [HK.out]
  go_wp2
  go_ret
  exact ⟨rfl, rfl⟩
theorem lists_First_no (k : Int) (pv : Option Addr) (hk : pv = none ∨ isCls k = false) (w : World) :
    Calls Tryz.prog 136 #[.pointer pv, .int .i64 k] w fun e w' => e = .returned (.int .i64 0) ∧ w = w' := by
  cases pv with
  | none =>
    clear hk
    go_enter Tryz.func136, Tryz.ntmps136
    go_wp2
    go_ret
    exact ⟨rfl, rfl⟩
  | some a =>
    have HK := Lib.hid (show isCls k = false by simpa using hk)
    clear hk
    go_enter Tryz.func136, Tryz.ntmps136
    go_wp2_with (go_at_call 118; fail)
    refine (class_Is _ _).mono ?_
    rintro e w1 ⟨rfl, rfl⟩
    rw [HK.out]
    go_wp2
    go_ret
    exact ⟨rfl, rfl⟩
end Go.Proofs.YtflhjbmoncbomaaGreatDoor
namespace Go.Proofs.YtflhjbmoncbomaaGreatDoor
open Go.RowKit

variable {W w : World} {A : LA} {c : Cf} {s : LS} {H : Nat → List Nat}
theorem set_one1 {f m : Nat → Int} {v0 v1 v2 : Value} (k : Nat) (hk : k < 4) (x : Int) :
    ((#[v0, v1, v2, .int .i64 (f 0), .int .i64 (f 1), .int .i64 (f 2), .int .i64 (f 3), .int .i64 (m 0), .int .i64 (m 1), .int .i64 (m 2), .int .i64 (m 3)] : Array Value).setIfInBounds (3 + k) (.int .i64 x)) =
    #[v0, v1, v2, .int .i64 (upd f k x 0), .int .i64 (upd f k x 1), .int .i64 (upd f k x 2), .int .i64 (upd f k x 3), .int .i64 (m 0), .int .i64 (m 1), .int .i64 (m 2), .int .i64 (m 3)] := by
  rcases (show k = 0 ∨ k = 1 ∨ k = 2 ∨ k = 3 by omega) with rfl | rfl | rfl | rfl <;> rfl
theorem set_one2 {f m : Nat → Int} {v0 v1 v2 : Value} (k : Nat) (hk : k < 4) (x : Int) :
    ((#[v0, v1, v2, .int .i64 (f 0), .int .i64 (f 1), .int .i64 (f 2), .int .i64 (f 3), .int .i64 (m 0), .int .i64 (m 1), .int .i64 (m 2), .int .i64 (m 3)] : Array Value).setIfInBounds (7 + k) (.int .i64 x)) =
    #[v0, v1, v2, .int .i64 (f 0), .int .i64 (f 1), .int .i64 (f 2), .int .i64 (f 3), .int .i64 (upd m k x 0), .int .i64 (upd m k x 1), .int .i64 (upd m k x 2), .int .i64 (upd m k x 3)] := by
  rcases (show k = 0 ∨ k = 1 ∨ k = 2 ∨ k = 3 by omega) with rfl | rfl | rfl | rfl <;> rfl
/-- Behind a store into the lists' box. -/
theorem LsAt.boxed {w' : World} {f m : Nat → Int} (h : LsAt W w A c s) (hT : Touch (fun b => b = A.p) w w') (hb : w'.heap[A.p]? = some (.cells #[.pointer (some ⟨A.pa, 0, none⟩), .pointer (some ⟨A.pt, 0, none⟩), .pointer (some ⟨A.pi, 0, none⟩), .int .i64 (f 0), .int .i64 (f 1), .int .i64 (f 2), .int .i64 (f 3), .int .i64 (m 0), .int .i64 (m 1), .int .i64 (m 2), .int .i64 (m 3)] 141)) : LsAt W w' A c { s with f := f, m := m } := by
  obtain ⟨ca, lo, st, a⟩ := h.ar
  obtain ⟨ct, b⟩ := h.tb
  obtain ⟨ci, wi, d⟩ := h.se
  obtain ⟨n1, n2, n3, n4, n5, n6⟩ := h.ne.1
  exact ⟨h.base_LT (hT.mono fun _ _ e => .inl e), h.hi, hb, ⟨ca, lo, st, a.touch hT n1.symm n2.symm⟩, ⟨ct, b.touch hT n3.symm n4.symm⟩, ⟨ci, wi, d.touch hT n5.symm n6.symm⟩, h.len, h.wok, h.ap⟩
set_option maxHeartbeats 1000000 in
theorem lists_Take_ok (j k : Nat) (h : LsAt W w A c s) (hj : j < s.ws.length) (hf : s.f k = j + 1) (hk : k < 4) (hM : s.M (j + 1) = true) (hm : 1 ≤ s.m k ∧ s.m k ≤ 2097152) (hL : Laid W) :
    Calls Tryz.prog 84 #[.pointer (some ⟨A.p, 0, none⟩), .int .i64 k] w fun e w' => e = .returned (.tuple #[.int .i64 (j + 1), .int .i64 0]) ∧ Touch (LT A) w w' ∧ LsAt W w' A c (s.tak j k) := by
  obtain ⟨-, -, -, d3, -⟩ := box11 h.box
  obtain ⟨df, -⟩ := d3 k hk
  rw [hf] at df
  obtain ⟨m0, m1⟩ := hm
  obtain ⟨y, hy⟩ : ∃ y, nxtW (s.ws.getD j 0) = y := ⟨_, rfl⟩
  have H := Lib.hid (And.intro h (And.intro hL (And.intro hj (And.intro hM (And.intro hk hy)))))
  have hki : (k : Int) < 4 := by omega
  have hj0 : ¬ ((j : Int) + 1 = 0) := by omega
  clear h hL hj hM hk d3 hf hy
  go_enter Tryz.func84, Tryz.ntmps84
  go_wp2_with (go_at_call 118; fail)
  refine (class_Is _ _).mono ?_
  rintro e w1 ⟨rfl, rfl⟩
  rw [isCls_nat H.out.2.2.2.2.1]
  have HN := Lib.hid (fun w0 (h0 : LsAt W w0 A c s) => show Calls Tryz.prog 119 #[.pointer (some ⟨A.p, 0, none⟩), .int .i64 (j + 1)] w0 fun e w' => e = .returned (.int .i64 y) ∧ Touch (fun b => b = A.pa) w0 w' ∧ LsAt W w' A c s from by
    have := lists_next j h0 H.out.2.2.1 H.out.2.1
    rwa [H.out.2.2.2.2.2] at this)
  have HS := Lib.hid (fun w' (ht : Touch (fun b => b = A.pa) w w') => show w'.cell? ⟨A.p, 3 + k, none⟩ = some (.int .i64 (j + 1)) ∧ w'.frozen? ⟨A.p, 3 + k, none⟩ = false from by
    have hb := blk_touch H.out.1.box ht H.out.1.ne.1.1
    refine ⟨(ht.cell (blk_lt H.out.1.box) H.out.1.ne.1.1).trans df, ?_⟩
    simp [World.frozen?, hb])
  have hT0 := Touch.refl (fun b => b = A.pa) w
  go_wp2_with fail
  clear df
  go_region_held3 (fun _ => True) (trivial) (first
    | (go_at_call 119; refine (HN.out _ (H.out.1.old (Touch.drew (Touch.refl _ _)))).mono ?_; rintro e w1 ⟨rfl, hT1', h1⟩; have hT1 := hT0.drew.trans hT1'; have H1 := Lib.hid h1; obtain ⟨hc1, hf1⟩ := HS.out _ hT1; clear hT1' h1))
  have H2 : Hid (LsAt W (w1.setCell ⟨A.p, 3 + k, none⟩ (.int .i64 y)) A c { s with f := upd s.f k y }) :=
    H1.out.boxed (Touch.setCell (S := fun b => b = A.p) (Touch.refl _ _) (.inl rfl) _) (by rw [set_cells (3 + k) _ H1.out.box, set_one1 k H.out.2.2.2.2.1])
  have HT2 : Hid (Touch (LT A) w (w1.setCell ⟨A.p, 3 + k, none⟩ (.int .i64 y))) := (hT1.mono (S' := LT A) fun _ _ e => .inr (.inl e)).setCell (.inl (.inl rfl)) _
  obtain ⟨W2, hW2⟩ : ∃ W2, W2 = w1.setCell ⟨A.p, 3 + k, none⟩ (.int .i64 y) := ⟨_, rfl⟩
  rw [← hW2] at H2 HT2 ⊢
  obtain ⟨-, -, -, d3, d4⟩ := box11 H2.out.box
  obtain ⟨-, dm⟩ := d3 k H.out.2.2.2.2.1
  have hf2 := d4 (7 + k)
  clear hW2 hT0 hT1 hc1 hf1 H1 HS HN d3 d4
  go_wp2
  go_region
  all_goals
    obtain ⟨W3, hW3⟩ : ∃ W3, W3 = (W2.setCell ⟨A.p, 7 + k, none⟩ (.int .i64 (s.m k - 1))).drew := ⟨_, rfl⟩
    have H3 : Hid (LsAt W W3 A c { s with f := upd s.f k y, m := upd s.m k (s.m k - 1) }) := by
      rw [hW3]
      exact H2.out.boxed ((Touch.setCell (S := fun b => b = A.p) (Touch.refl _ _) (.inl rfl) _).drew) (by
        show (W2.setCell ⟨A.p, 7 + k, none⟩ (.int .i64 (s.m k - 1))).heap[A.p]? = _
        rw [set_cells (7 + k) _ H2.out.box, set_one2 k H.out.2.2.2.2.1])
    have HT3 : Hid (Touch (LT A) w W3) := by
      rw [hW3]
      exact ((HT2.out.setCell (.inl (.inl rfl)) _).drew)
    rw [← hW3]
    obtain ⟨-, -, d2, -, -⟩ := box11 H3.out.box
    clear hW3 dm hf2 H2 HT2
    go_wp2_with (go_at_call 87; fail)
    refine (set_PutV j false H3.out H.out.2.2.1 (by rw [H.out.2.2.2.1]; simp)).mono ?_
    rintro e W4 ⟨rfl, hT4, h4⟩
    have H4 := Lib.hid (And.intro (HT3.out.trans (hT4.mono fun _ _ e => .inr (.inr (.inr e)))) h4)
    clear hT4 h4
    go_wp2
    go_ret2
    refine ⟨rfl, H4.out.1, ?_⟩
    have := H4.out.2
    rw [← H.out.2.2.2.2.2] at this
    exact this
theorem lists_Take_none (k : Nat) (h : LsAt W w A c s) (hk : k < 4) (hf : s.f k = 0) :
    Calls Tryz.prog 84 #[.pointer (some ⟨A.p, 0, none⟩), .int .i64 k] w fun e w' => e = .returned (.tuple #[.int .i64 0, .int .i64 12]) ∧ w = w' := by
  obtain ⟨-, -, -, d3, -⟩ := box11 h.box
  obtain ⟨df, -⟩ := d3 k hk
  rw [hf] at df
  have hki : (k : Int) < 4 := by omega
  have HK := Lib.hid (isCls_nat hk)
  clear h d3 hk hf
  go_enter Tryz.func84, Tryz.ntmps84
  go_wp2_with (go_at_call 118; fail)
  refine (class_Is _ _).mono ?_
  rintro e w1 ⟨rfl, rfl⟩
  rw [HK.out]
  go_wp2
  go_ret2
  exact ⟨rfl, rfl⟩
theorem lists_Take_arg (k : Int) (a : Addr) (hk : isCls k = false) (w : World) :
    Calls Tryz.prog 84 #[.pointer (some a), .int .i64 k] w fun e w' => e = .returned (.tuple #[.int .i64 0, .int .i64 1]) ∧ w = w' := by
  have HK := Lib.hid hk
  clear hk
  go_enter Tryz.func84, Tryz.ntmps84
  go_wp2_with (go_at_call 118; fail)
  refine (class_Is _ _).mono ?_
  rintro e w1 ⟨rfl, rfl⟩
  rw [HK.out]
  go_wp2
  go_ret2
  exact ⟨rfl, rfl⟩
theorem lists_nil (k : Int) (w : World) :
    (Calls Tryz.prog 84 #[.pointer none, .int .i64 k] w fun e w' => e = .returned (.tuple #[.int .i64 0, .int .i64 11]) ∧ w = w') ∧ Calls Tryz.prog 127 #[.pointer none, .int .i64 k] w fun e w' => e = .returned (.bool false) ∧ w = w' := by
  refine ⟨?_, ?_⟩
  · go_enter Tryz.func84, Tryz.ntmps84
    go_wp2
    go_ret2
    exact ⟨rfl, rfl⟩
  · go_enter Tryz.func127, Tryz.ntmps127
    go_wp2
    go_ret
    exact ⟨rfl, rfl⟩
/-- What is made: lists that have none. -/
theorem lists_New_ok {pa qa ca pt qt ct n : Nat} {ws ks : List Int} {lo st : Int} (hb : Touch nob W w) (ha : ArenaAt w pa qa ca ws lo st) (ht : BlkAt w pt qt ct n c ks) (hl : (ws.length : Int) = c.c0 * c.c1) (hg : ∀ x ∈ [pa, qa, pt, qt], W.heap.size ≤ x) (hn : [pa, qa, pt, qt].Nodup) (hw : ∀ j, j < ws.length → 0 ≤ ws.getD j 0 ∧ ws.getD j 0 < 18446744073709551616) (hL : Laid W) :
    Calls Tryz.prog 59 #[.pointer (some ⟨pa, 0, none⟩), .pointer (some ⟨pt, 0, none⟩)] w fun e w' => ∃ p pi qi, e = .returned (.tuple #[.pointer (some ⟨p, 0, none⟩), .int .i64 0]) ∧ Touch nob w w' ∧ LsAt W w' ⟨p, pa, qa, pt, qt, pi, qi, n⟩ c ⟨ws, ks, fun _ => false, fun _ => 0, fun _ => 0⟩ := by
  obtain ⟨z, hz⟩ : ∃ z, ws.length = z := ⟨_, rfl⟩
  have hz1 : z ≤ 1048576 := by rw [← hz]; exact ha.len.2
  have H := Lib.hid (And.intro hb (And.intro ha (And.intro ht (And.intro hl (And.intro hg (And.intro hn (And.intro hw (And.intro hL hz))))))))
  clear hb ha ht hl hg hn hw hL hz
  go_enter Tryz.func59, Tryz.ntmps59
  go_wp2_with (go_at_call 97; fail)
  refine (blk_Config H.out.2.2.1).mono ?_
  rintro e w1 ⟨rfl, hT1⟩
  have HT1 := Lib.hid hT1
  clear hT1
  go_wp2_with (go_at_call 57; fail)
  refine (config_Words _ _ _ _ _ _ _ w1 (H.out.2.2.2.2.2.2.2.1.old (H.out.1.trans HT1.out)).lim).mono ?_
  rintro e w2 ⟨rfl, hb2⟩
  rw [show cfgOk c.c0 c.c1 c.c2 c.c3 c.c4 c.c5 c.c6 = true from H.out.2.2.1.ok, show ifOk true (cfgWords c.c0 c.c1) = (z : Int) by rw [← H.out.2.2.2.2.2.2.2.2, H.out.2.2.2.1]; rfl]
  have HT2 := Lib.hid (HT1.out.trans (Touch.of_below hb2))
  clear hb2
  go_wp2_with (go_at_call 106; fail)
  refine (arena_Len pa qa ca ws lo st w2 (H.out.2.1.touch HT2.out (fun x => x) (fun x => x))).mono ?_
  rintro e w3 ⟨rfl, rfl⟩
  rw [H.out.2.2.2.2.2.2.2.2]
  go_wp2_with (go_at_call 60; fail)
  rw [show ((z : Int) + 1) = ((z + 1 : Nat) : Int) by omega]
  refine (bits_New_ok (z + 1) (by omega) w2).mono ?_
  rintro e w4 ⟨pi, qi, ci, wi, rfl, hT4, hpi, hqi, hse⟩
  have H4 := Lib.hid (And.intro hT4 (And.intro hpi (And.intro hqi hse)))
  clear hT4 hpi hqi hse
  go_wp2
  go_ret2
  obtain ⟨hb, ha, ht, hl, hg, hn, hw, hL, hz⟩ := H.out
  obtain ⟨hT4, hpi, hqi, hse⟩ := H4.out
  have hT5 : Touch nob w4 (w4.alloc (Obj.cells #[.pointer (some ⟨pa, 0, none⟩), .pointer (some ⟨pt, 0, none⟩), .pointer (some ⟨pi, 0, none⟩), .int .i64 0, .int .i64 0, .int .i64 0, .int .i64 0, .int .i64 0, .int .i64 0, .int .i64 0, .int .i64 0] 141)) := (Touch.refl _ _).alloc _
  have hT := (HT2.out.trans hT4).trans hT5
  have l1 := blk_lt ha.box
  have l2 := ha.row.lt
  have l3 := blk_lt ht.box
  have l4 := ht.row.lt
  have l5 := blk_lt hse.box
  have l6 := hse.row.lt
  have l7 := HT2.out.size
  have l8 := hb.size
  have l9 := hT4.size
  have l10 := hse.ne
  have g1 := hg pa (by simp)
  have g2 := hg qa (by simp)
  have g3 := hg pt (by simp)
  have g4 := hg qt (by simp)
  refine ⟨w4.heap.size, pi, qi, rfl, hT, hb.trans hT, ?_, World.alloc_heap_new w4 _, ⟨ca, lo, st, ha.touch hT (fun x => x) (fun x => x)⟩, ⟨ct, ht.old hT⟩, ⟨ci, wi, ?_⟩, hl, hw, ?_⟩
  · intro x hx
    simp only [LA.all, List.mem_cons, List.not_mem_nil, or_false] at hx
    omega
  · show SetAt _ _ _ _ _ (ws.length + 1) _
    rw [hz]
    exact hse.touch hT5 (fun x => x) (fun x => x)
  · simp only [List.nodup_cons, List.mem_cons, List.not_mem_nil, not_or, or_false, not_false_eq_true, List.nodup_nil, and_true] at hn
    simp only [LA.all, List.nodup_cons, List.mem_cons, List.not_mem_nil, not_or, or_false, not_false_eq_true, List.nodup_nil, and_true]
    omega
end Go.Proofs.YtflhjbmoncbomaaGreatDoor
