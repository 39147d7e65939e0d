/- Free lists: next, Put, Take, walked. Conditions: the tables of limits and of sizes read as laid, where said. Free lists: how they are threaded: plain laws. Conditions: none. Free lists: Put, Take, Has, Len, First, walked. Conditions: the tables of limits and of sizes read as laid, where said. Free lists: Take, New, walked. Conditions: the tables of limits and of sizes read as laid, where said. Tables of blocks: what All tells, listed. Conditions: the tables of limits and of sizes read as laid. Free lists: All, walked. Conditions: the tables of limits and of sizes read as laid. Free lists: what All tells, listed. Conditions: the tables of limits and of sizes read as laid. The document's small configs, walked. Conditions: none. Tables of blocks: the law's example, and the document's slots, walked. Conditions: the tables of limits and of sizes read as laid. Free lists: what the law makes, and the law's example, walked. Conditions: the tables of limits and of sizes read as laid. Free lists and what is in them: what each call tells; the law's example, walked. Conditions: the tables of limits and of sizes read as laid. -/
import Derived.Test.YtnobempbcdkoaaaGreatDoorLow
import Derived.Test.YtnobempbcdkoaaaGreatDoorBlk
import Derived.Deep.RegionHeld3
import Derived.Deep.RegionWith
import Derived.BigRegion
import Derived.WalkLawsBesides
import Derived.Maps.OwnIn
import Derived.WalkMore
namespace Go.Proofs.YtnobempbcdkoaaaGreatDoor
open Go.RowKit

/-- Where lists lie: their box, the arena's, the table's, the set's; how many blocks. -/
structure LA where
  p : Nat
  pa : Nat
  qa : Nat
  pt : Nat
  qt : Nat
  pi : Nat
  qi : Nat
  n : Nat
/-- What they hold: the arena's words, the blocks' classes, which slots are in, first and many of each class. -/
structure LS where
  ws : List Int
  ks : List Int
  M : Nat → Bool
  f : Nat → Int
  m : Nat → Int
def LA.all (A : LA) : List Nat := [A.p, A.pa, A.qa, A.pt, A.qt, A.pi, A.qi]
/-- What calls of lists may turn. -/
def LT (A : LA) : Nat → Prop := fun b => b = A.p ∨ b = A.pa ∨ b = A.qa ∨ b = A.qi
structure LsAt (W w : World) (A : LA) (c : Cf) (s : LS) : Prop where
  base : Touch nob W w
  hi : ∀ x ∈ A.all, W.heap.size ≤ x
  box : w.heap[A.p]? = some (.cells #[.pointer (some ⟨A.pa, 0, none⟩), .pointer (some ⟨A.pt, 0, none⟩), .pointer (some ⟨A.pi, 0, none⟩), .int .i64 (s.f 0), .int .i64 (s.f 1), .int .i64 (s.f 2), .int .i64 (s.f 3), .int .i64 (s.m 0), .int .i64 (s.m 1), .int .i64 (s.m 2), .int .i64 (s.m 3)] 198)
  ar : ∃ ca lo st, ArenaAt w A.pa A.qa ca s.ws lo st
  tb : ∃ ct, BlkAt w A.pt A.qt ct A.n c s.ks
  se : ∃ ci wi, SetAt w A.pi A.qi ci wi (s.ws.length + 1) s.M
  len : (s.ws.length : Int) = c.c0 * c.c1
  wok : ∀ j, j < s.ws.length → 0 ≤ s.ws.getD j 0 ∧ s.ws.getD j 0 < 18446744073709551616
  ap : A.all.Nodup
variable {W w : World} {A : LA} {c : Cf} {s : LS}
theorem LsAt.ne (h : LsAt W w A c s) : (A.p ≠ A.pa ∧ A.p ≠ A.qa ∧ A.p ≠ A.pt ∧ A.p ≠ A.qt ∧ A.p ≠ A.pi ∧ A.p ≠ A.qi) ∧ (A.pa ≠ A.qa ∧ A.pa ≠ A.pt ∧ A.pa ≠ A.qt ∧ A.pa ≠ A.pi ∧ A.pa ≠ A.qi) ∧ (A.qa ≠ A.pt ∧ A.qa ≠ A.qt ∧ A.qa ≠ A.pi ∧ A.qa ≠ A.qi) ∧ (A.pt ≠ A.qt ∧ A.pt ≠ A.pi ∧ A.pt ≠ A.qi) ∧ (A.qt ≠ A.pi ∧ A.qt ≠ A.qi) ∧ A.pi ≠ A.qi := by
  have h := h.ap
  unfold LA.all at h
  simp only [List.nodup_cons, List.mem_cons, List.not_mem_nil, not_or, or_false, not_false_eq_true, List.nodup_nil, and_true] at h
  obtain ⟨h1, h2, h3, h4, h5, h6⟩ := h
  exact ⟨h1, h2, h3, h4, h5, h6⟩
theorem LsAt.lt (h : LsAt W w A c s) : A.p < w.heap.size ∧ A.pa < w.heap.size ∧ A.qa < w.heap.size ∧ A.pt < w.heap.size ∧ A.qt < w.heap.size ∧ A.pi < w.heap.size ∧ A.qi < w.heap.size := by
  obtain ⟨_, _, _, h1⟩ := h.ar
  obtain ⟨_, h2⟩ := h.tb
  obtain ⟨_, _, h3⟩ := h.se
  exact ⟨blk_lt h.box, blk_lt h1.box, h1.row.lt, blk_lt h2.box, h2.row.lt, blk_lt h3.box, h3.row.lt⟩
theorem LsAt.ge (h : LsAt W w A c s) : W.heap.size ≤ A.p ∧ W.heap.size ≤ A.pa ∧ W.heap.size ≤ A.qa ∧ W.heap.size ≤ A.pt ∧ W.heap.size ≤ A.qt ∧ W.heap.size ≤ A.pi ∧ W.heap.size ≤ A.qi := by
  refine ⟨h.hi _ ?_, h.hi _ ?_, h.hi _ ?_, h.hi _ ?_, h.hi _ ?_, h.hi _ ?_, h.hi _ ?_⟩ <;> simp [LA.all]
theorem LsAt.base_LT {w' : World} (h : LsAt W w A c s) (ht : Touch (LT A) w w') : Touch nob W w' := h.base.step ht (fun i hi => by
  obtain ⟨g1, g2, g3, g4, g5, g6, g7⟩ := h.ge
  right
  rcases hi with rfl | rfl | rfl | rfl <;> assumption)
theorem LsAt.touch {S : Nat → Prop} {w' : World} (h : LsAt W w A c s) (hb : Touch nob W w') (ht : Touch S w w') (h1 : ¬ S A.p) (h2 : ¬ S A.pa) (h3 : ¬ S A.qa) (h4 : ¬ S A.pt) (h5 : ¬ S A.qt) (h6 : ¬ S A.pi) (h7 : ¬ S A.qi) : LsAt W w' A c s := by
  obtain ⟨ca, lo, st, a⟩ := h.ar
  obtain ⟨ct, b⟩ := h.tb
  obtain ⟨ci, wi, d⟩ := h.se
  exact ⟨hb, h.hi, blk_touch h.box ht h1, ⟨ca, lo, st, a.touch ht h2 h3⟩, ⟨ct, b.touch ht h4 h5⟩, ⟨ci, wi, d.touch ht h6 h7⟩, h.len, h.wok, h.ap⟩
theorem LsAt.old {w' : World} (h : LsAt W w A c s) (ht : Touch nob w w') : LsAt W w' A c s := h.touch (h.base.trans ht) ht (fun x => x) (fun x => x) (fun x => x) (fun x => x) (fun x => x) (fun x => x) (fun x => x)
theorem box11 {w : World} {b : Nat} {v0 v1 v2 : Value} {f m : Nat → Int} {t : TypeId} (h : w.heap[b]? = some (.cells #[v0, v1, v2, .int .i64 (f 0), .int .i64 (f 1), .int .i64 (f 2), .int .i64 (f 3), .int .i64 (m 0), .int .i64 (m 1), .int .i64 (m 2), .int .i64 (m 3)] t)) :
    w.cell? ⟨b, 0, none⟩ = some v0 ∧ w.cell? ⟨b, 1, none⟩ = some v1 ∧ w.cell? ⟨b, 2, none⟩ = some v2 ∧ (∀ k, k < 4 → w.cell? ⟨b, 3 + k, none⟩ = some (.int .i64 (f k)) ∧ w.cell? ⟨b, 7 + k, none⟩ = some (.int .i64 (m k))) ∧ ∀ j, w.frozen? ⟨b, j, none⟩ = false := by
  refine ⟨?_, ?_, ?_, fun k hk => ?_, fun j => ?_⟩
  · simp [World.cell?, h]
  · simp [World.cell?, h]
  · simp [World.cell?, h]
  · rcases (show k = 0 ∨ k = 1 ∨ k = 2 ∨ k = 3 by omega) with rfl | rfl | rfl | rfl <;> simp [World.cell?, h]
  · simp [World.frozen?, h]
/-- What a word tells as the next one. -/
def nxtW (x : Int) : Int := match isLinkW x with | true => x % 72057594037927936 | false => 0
theorem header_NextV (x : Int) (h0 : 0 ≤ x) (h1 : Hid (x < 18446744073709551616)) (w : World) (hS : Sizes w) :
    Calls Tryz.prog 185 #[.int .u64 x] w fun e w' => e = .returned (.tuple #[.int .i64 (nxtW x), .bool (isLinkW x)]) ∧ w = w' :=
  (header_Next x h0 h1 w hS).mono fun e w' g => ⟨by rw [g.1]; unfold nxtW; cases isLinkW x <;> rfl, g.2⟩
/-- What lists lay as a link. -/
def lnkW (a : Int) : Int := match linkOk a with | true => hLink a | false => 0
theorem header_LinkV (a : Int) (w : World) :
    Calls Tryz.prog 161 #[.int .i64 a] w fun e w' => e = .returned (.tuple #[.int .u64 (lnkW a), .bool (linkOk a)]) ∧ w = w' :=
  (header_Link a w).mono fun e w' g => ⟨by rw [g.1]; unfold lnkW; cases linkOk a <;> rfl, g.2⟩
/-- Behind a load. -/
theorem LsAt.loaded {w' : World} {ca : Nat} {lo st : Int} (h : LsAt W w A c s) (hT : Touch (fun b => b = A.pa) w w') (hA : ArenaAt w' A.pa A.qa ca s.ws lo st) : LsAt W w' A c s := by
  obtain ⟨⟨n1, n2, n3, n4, n5, n6⟩, ⟨n7, n8, n9, n10, n11⟩, _⟩ := h.ne
  obtain ⟨ct, b⟩ := h.tb
  obtain ⟨ci, wi, d⟩ := h.se
  exact ⟨h.base_LT (hT.mono fun _ _ e => .inr (.inl e)), h.hi, blk_touch h.box hT n1, ⟨ca, _, st, hA⟩, ⟨ct, b.touch hT n8.symm n9.symm⟩, ⟨ci, wi, d.touch hT n10.symm n11.symm⟩, h.len, h.wok, h.ap⟩
theorem lists_next (j : Nat) (h : LsAt W w A c s) (hj : j < s.ws.length) (hL : Laid W) :
    Calls Tryz.prog 181 #[.pointer (some ⟨A.p, 0, none⟩), .int .i64 (j + 1)] w fun e w' => e = .returned (.int .i64 (nxtW (s.ws.getD j 0))) ∧ Touch (fun b => b = A.pa) w w' ∧ LsAt W w' A c s := by
  obtain ⟨d0, d1, d2, -, -⟩ := box11 h.box
  have hw := h.wok j hj
  have H := Lib.hid (And.intro h (And.intro hj hL))
  obtain ⟨x, hx⟩ : ∃ x, s.ws.getD j 0 = x := ⟨_, rfl⟩
  rw [hx] at hw
  rw [hx]
  have HX := Lib.hid hx
  obtain ⟨hw0, hw1⟩ := hw
  have HW := Lib.hid hw1
  clear h hj hL d1 d2 hx hw1
  go_enter Tryz.func181, Tryz.ntmps181
  go_wp2_with (go_at_call 60; fail)
  obtain ⟨ca, lo, st, ha⟩ := H.out.1.ar
  refine (arena_Load_ok _ _ ca _ lo st j w ha H.out.2.1).mono ?_
  rintro e w1 ⟨rfl, hT, hA⟩
  rw [HX.out]
  have HL := Lib.hid (And.intro hT (H.out.1.loaded hT hA))
  clear ha hT hA
  go_wp2_with (go_at_call 185; fail)
  refine (header_NextV x hw0 HW w1 (H.out.2.2.old HL.out.2.base).siz).mono ?_
  rintro e w2 ⟨rfl, rfl⟩
  go_wp2
  go_ret
  exact ⟨rfl, HL.out⟩
/-- One cell of four, turned. -/
def upd (f : Nat → Int) (k : Nat) (x : Int) : Nat → Int := fun j => if j = k then x else f j
/-- Behind Put of slot j + 1, of class k. -/
def LS.put (s : LS) (j k : Nat) : LS :=
  { s with ws := s.ws.set j (lnkW (s.f k)), M := fun x => if x = j + 1 then true else s.M x, f := upd s.f k (j + 1), m := upd s.m k (s.m k + 1) }
/-- Behind a Put into the set. -/
theorem LsAt.setP {w' : World} {ci : Nat} {wi : List Nat} {M : Nat → Bool} (h : LsAt W w A c s) (hT : Touch (fun b => b = A.qi) w w') (hA : SetAt w' A.pi A.qi ci wi (s.ws.length + 1) M) : LsAt W w' A c { s with M := M } := by
  obtain ⟨⟨n1, n2, n3, n4, n5, n6⟩, ⟨n7, n8, n9, n10, n11⟩, ⟨n12, n13, n14, n15⟩, ⟨n16, n17, n18⟩, ⟨n19, n20⟩, n21⟩ := h.ne
  obtain ⟨ca, lo, st, a⟩ := h.ar
  obtain ⟨ct, b⟩ := h.tb
  exact ⟨h.base_LT (hT.mono fun _ _ e => .inr (.inr (.inr e))), h.hi, blk_touch h.box hT n6, ⟨ca, lo, st, a.touch hT n11 n15⟩, ⟨ct, b.touch hT n18 n20⟩, ⟨ci, wi, hA⟩, h.len, h.wok, h.ap⟩
theorem set_PutV (j : Nat) (b : Bool) (h : LsAt W w A c s) (hj : j < s.ws.length) (hM : s.M (j + 1) ≠ b) :
    Calls Tryz.prog 99 #[.pointer (some ⟨A.pi, 0, none⟩), .int .i64 (j + 1), .bool b] w fun e w' => e = .returned (.bool true) ∧ Touch (fun b => b = A.qi) w w' ∧ LsAt W w' A c { s with M := fun x => if x = j + 1 then b else s.M x } := by
  obtain ⟨ci, wi, hd⟩ := h.se
  have := set_Put_ok (j + 1) b hd (by omega) hM
  rw [show ((j + 1 : Nat) : Int) = (j : Int) + 1 by omega] at this
  exact this.mono fun _ _ g => ⟨g.1, g.2.1, h.setP g.2.1 g.2.2⟩
theorem set_upd {f m : Nat → Int} {v0 v1 v2 : Value} (k : Nat) (hk : k < 4) (x y : Int) :
    ((#[v0, v1, v2, .int .i64 (f 0), .int .i64 (f 1), .int .i64 (f 2), .int .i64 (f 3), .int .i64 (m 0), .int .i64 (m 1), .int .i64 (m 2), .int .i64 (m 3)] : Array Value).setIfInBounds (3 + k) (.int .i64 x)).setIfInBounds (7 + k) (.int .i64 y) =
    #[v0, v1, v2, .int .i64 (upd f k x 0), .int .i64 (upd f k x 1), .int .i64 (upd f k x 2), .int .i64 (upd f k x 3), .int .i64 (upd m k y 0), .int .i64 (upd m k y 1), .int .i64 (upd m k y 2), .int .i64 (upd m k y 3)] := by
  rcases (show k = 0 ∨ k = 1 ∨ k = 2 ∨ k = 3 by omega) with rfl | rfl | rfl | rfl <;> rfl
theorem LsAt.set2 (h : LsAt W w A c s) (k : Nat) (hk : k < 4) (x y : Int) : LsAt W ((w.setCell ⟨A.p, 3 + k, none⟩ (.int .i64 x)).setCell ⟨A.p, 7 + k, none⟩ (.int .i64 y)).drew.drew A c { s with f := upd s.f k x, m := upd s.m k y } := by
  have hT : Touch (fun b => b = A.p) w ((w.setCell ⟨A.p, 3 + k, none⟩ (.int .i64 x)).setCell ⟨A.p, 7 + k, none⟩ (.int .i64 y)).drew.drew := by
    refine Touch.drew (Touch.drew ?_)
    refine Touch.setCell (S := fun b => b = A.p) ?_ (.inl rfl) _
    exact Touch.setCell (S := fun b => b = A.p) (Touch.refl _ _) (.inl rfl) _
  obtain ⟨ca, lo, st, a⟩ := h.ar
  obtain ⟨ct, b⟩ := h.tb
  obtain ⟨ci, wi, d⟩ := h.se
  obtain ⟨n1, n2, n3, n4, n5, n6⟩ := h.ne.1
  refine ⟨h.base_LT (hT.mono fun _ _ e => .inl e), h.hi, ?_, ⟨ca, lo, st, a.touch hT n1.symm n2.symm⟩, ⟨ct, b.touch hT n3.symm n4.symm⟩, ⟨ci, wi, d.touch hT n5.symm n6.symm⟩, h.len, h.wok, h.ap⟩
  show (((w.setCell ⟨A.p, 3 + k, none⟩ (.int .i64 x)).setCell ⟨A.p, 7 + k, none⟩ (.int .i64 y))).heap[A.p]? = _
  rw [set_cells (7 + k) _ (set_cells (3 + k) _ h.box), set_upd k hk]
theorem lnkW_bd (a : Int) : 0 ≤ lnkW a ∧ lnkW a < 18446744073709551616 := by
  unfold lnkW
  cases h : linkOk a
  · exact ⟨show (0 : Int) ≤ 0 from Int.le_refl 0, show (0 : Int) < 18446744073709551616 by decide⟩
  · obtain ⟨h1, h2, _⟩ := link_facts h
    exact ⟨h1, h2⟩
theorem getD_setJ {l : List Int} {i j : Nat} {x : Int} : (l.set i x).getD j 0 = if i = j ∧ i < l.length then x else l.getD j 0 := by
  rw [List.getD_eq_getElem?_getD, List.getD_eq_getElem?_getD, List.getElem?_set]
  by_cases hij : i = j
  · subst hij
    by_cases hi : i < l.length
    · simp [hi]
    · simp [hi]
  · simp [hij]
theorem arena_StoreV (j : Nat) (x : Int) (h : LsAt W w A c s) (hj : j < s.ws.length) (hx : 0 ≤ x ∧ x < 18446744073709551616) :
    Calls Tryz.prog 93 #[.pointer (some ⟨A.pa, 0, none⟩), .int .i64 (j + 1), .int .u64 x] w fun e w' => e = .returned (.int .i64 0) ∧ Touch (fun b => b = A.pa ∨ b = A.qa) w w' ∧ LsAt W w' A c { s with ws := s.ws.set j x } := by
  obtain ⟨ca, lo, st, ha⟩ := h.ar
  refine (arena_Store_ok _ _ ca _ lo st x j w ha hj).mono fun _ _ g => ⟨g.1, g.2.1, ?_⟩
  obtain ⟨ct, b⟩ := h.tb
  obtain ⟨ci, wi, d⟩ := h.se
  obtain ⟨⟨n1, n2, n3, n4, n5, n6⟩, ⟨n7, n8, n9, n10, n11⟩, ⟨n12, n13, n14, n15⟩, ⟨n16, n17, n18⟩, ⟨n19, n20⟩, n21⟩ := h.ne
  refine ⟨h.base_LT (g.2.1.mono fun i _ hi => hi.elim (fun e => .inr (.inl e)) (fun e => .inr (.inr (.inl e)))), h.hi, blk_touch h.box g.2.1 (not_or.2 ⟨n1, n2⟩), ⟨ca, _, _, g.2.2⟩, ⟨ct, b.touch g.2.1 (not_or.2 ⟨n8.symm, n12.symm⟩) (not_or.2 ⟨n9.symm, n13.symm⟩)⟩, ⟨ci, wi, ?_⟩, ?_, ?_, h.ap⟩
  · show SetAt _ _ _ _ _ ((s.ws.set j x).length + 1) _
    rw [List.length_set]
    exact d.touch g.2.1 (not_or.2 ⟨n10.symm, n14.symm⟩) (not_or.2 ⟨n11.symm, n15.symm⟩)
  · show ((s.ws.set j x).length : Int) = _
    rw [List.length_set]
    exact h.len
  · intro i hi
    rw [List.length_set] at hi
    show 0 ≤ (s.ws.set j x).getD i 0 ∧ (s.ws.set j x).getD i 0 < _
    rw [getD_setJ]
    split
    · exact hx
    · exact h.wok i hi
set_option maxHeartbeats 1000000 in
theorem lists_Put1_ok (j k bl ba : Nat) (h : LsAt W w A c s) (hj : j < s.ws.length) (hk : k < 4) (hM : s.M (j + 1) = false) (hm : 0 ≤ s.m k ∧ s.m k ≤ 2097152) (hbl : w.heap[bl]? = some (.cells #[.pointer (some ⟨A.p, 0, none⟩)] 107)) (hba : w.heap[ba]? = some (.cells #[.int .i64 (j + 1)] 3)) (hnb : bl ∉ A.all ∧ ba ∉ A.all) :
    Calls Tryz.prog 160 #[.int .i64 k, .pointer (some ⟨bl, 0, none⟩), .pointer (some ⟨ba, 0, none⟩)] w fun e w' => e = .returned (.int .i64 0) ∧ Touch (LT A) w w' ∧ LsAt W w' A c (s.put j k) := by
  obtain ⟨d0, d1, d2, d3, -⟩ := box11 h.box
  have HB := Lib.hid (fun w' (ht : Touch (LT A) w w') => show w'.heap[bl]? = some (.cells #[.pointer (some ⟨A.p, 0, none⟩)] 107) ∧ w'.heap[ba]? = some (.cells #[.int .i64 (j + 1)] 3) from by
    obtain ⟨hb1, hb2⟩ := hnb
    unfold LA.all at hb1 hb2
    simp only [List.mem_cons, List.not_mem_nil, or_false, not_or] at hb1 hb2
    exact ⟨blk_touch hbl ht (by unfold LT; omega), blk_touch hba ht (by unfold LT; omega)⟩)
  have H := Lib.hid (And.intro h (And.intro hj hM))
  have HS := Lib.hid (fun w' (ht : Touch (fun b => b = A.qi) w w') => show w'.cell? ⟨bl, 0, none⟩ = some (.pointer (some ⟨A.p, 0, none⟩)) ∧ w'.cell? ⟨ba, 0, none⟩ = some (.int .i64 (j + 1)) ∧ w'.cell? ⟨A.p, 2, none⟩ = some (.pointer (some ⟨A.pi, 0, none⟩)) from by
    obtain ⟨g1, g2⟩ := HB.out w' (ht.mono fun _ _ e => .inr (.inr (.inr e)))
    exact ⟨one_cell g1, one_cell g2, (ht.cell (blk_lt h.box) h.ne.1.2.2.2.2.2).trans d2⟩)
  clear h hj hM hbl hba hnb d0 d1 d2 d3
  obtain ⟨m0, m1⟩ := hm
  have hT0 := Touch.refl (fun b => b = A.qi) w
  have hki : (k : Int) < 4 := by omega
  go_enter Tryz.func160, Tryz.ntmps160
  go_wp2_with fail
  go_region_held3 (fun w' => w'.cell? ⟨bl, 0, none⟩ = some (.pointer (some ⟨A.p, 0, none⟩)) ∧ w'.cell? ⟨ba, 0, none⟩ = some (.int .i64 (j + 1)) ∧ w'.cell? ⟨A.p, 2, none⟩ = some (.pointer (some ⟨A.pi, 0, none⟩))) (first | exact HS.out _ (by first | assumption | exact hT0.drew)) (first
    | (go_at_call 99; refine (set_PutV j true (H.out.1.old (Touch.drew (Touch.refl _ _))) H.out.2.1 (by rw [H.out.2.2]; simp)).mono ?_; rintro e w1 ⟨rfl, hT1', h1⟩; have hT1 := hT0.drew.trans hT1'; have H1 := Lib.hid h1; clear hT1' h1))
  obtain ⟨cl, cb, -⟩ := HS.out _ hT1
  have HT1 := Lib.hid (hT1.mono (S' := LT A) fun _ _ e => .inr (.inr (.inr e)))
  clear hT0 hT1 HS
  obtain ⟨d0, -, -, d3, d4⟩ := box11 H1.out.box
  obtain ⟨df, dm⟩ := d3 k hk
  simp only [] at df dm
  have hf1 := d4 (3 + k)
  have hf2 := d4 (7 + k)
  clear d3 d4
  go_wp2_with (go_at_call 161; fail)
  refine (header_LinkV _ w1).mono ?_
  rintro e w2 ⟨rfl, rfl⟩
  go_wp2
  go_region
  all_goals
    go_wp2
    go_region
  all_goals
    go_wp2_with fail
    obtain ⟨W5, hW5⟩ : ∃ W5, W5 = ((w1.setCell ⟨A.p, 3 + k, none⟩ (.int .i64 (j + 1))).setCell ⟨A.p, 7 + k, none⟩ (.int .i64 (s.m k + 1))).drew.drew := ⟨_, rfl⟩
    rw [← hW5]
    have H5 : Hid (LsAt W W5 A c { s with M := fun x => if x = j + 1 then true else s.M x, f := upd s.f k (j + 1), m := upd s.m k (s.m k + 1) }) := by
      rw [hW5]; exact H1.out.set2 k hk _ _
    have hT5 : Touch (LT A) w W5 := by
      rw [hW5]
      exact (((HT1.out.setCell (.inl (.inl rfl)) _).setCell (.inl (.inl rfl)) _).drew).drew
    have HS := Lib.hid (fun w' (ht : Touch (fun b => b = A.pa ∨ b = A.qa) W5 w') => show w'.cell? ⟨bl, 0, none⟩ = some (.pointer (some ⟨A.p, 0, none⟩)) ∧ w'.cell? ⟨ba, 0, none⟩ = some (.int .i64 (j + 1)) ∧ w'.cell? ⟨A.p, 0, none⟩ = some (.pointer (some ⟨A.pa, 0, none⟩)) from by
      obtain ⟨g1, g2⟩ := HB.out w' (hT5.step ht (fun i hi => .inl (hi.elim (fun e => .inr (.inl e)) (fun e => .inr (.inr (.inl e))))))
      exact ⟨one_cell g1, one_cell g2, (ht.cell (blk_lt H5.out.box) (not_or.2 ⟨H5.out.ne.1.1, H5.out.ne.1.2.1⟩)).trans (box11 H5.out.box).1⟩)
    have HT5 := Lib.hid hT5
    have hT0 := Touch.refl (fun b => b = A.pa ∨ b = A.qa) W5
    clear hW5 hT5 d0 df dm hf1 hf2 cl cb
    go_region_held3 (fun w' => w'.cell? ⟨bl, 0, none⟩ = some (.pointer (some ⟨A.p, 0, none⟩)) ∧ w'.cell? ⟨ba, 0, none⟩ = some (.int .i64 (j + 1)) ∧ w'.cell? ⟨A.p, 0, none⟩ = some (.pointer (some ⟨A.pa, 0, none⟩))) (first | exact HS.out _ (by first | assumption | exact hT0.drew)) (first
      | (go_at_call 93; refine (arena_StoreV j (lnkW (s.f k)) (H5.out.old (Touch.drew (Touch.refl _ _))) H.out.2.1 (lnkW_bd _)).mono ?_; rintro e w6 ⟨rfl, hT6', h6⟩; have hT6 := hT0.drew.trans hT6'; have H6 := Lib.hid h6; clear hT6' h6))
    go_wp2
    go_ret
    exact ⟨rfl, HT5.out.trans (hT6.mono fun i _ hi => hi.elim (fun e => .inr (.inl e)) (fun e => .inr (.inr (.inl e)))), H6.out⟩
end Go.Proofs.YtnobempbcdkoaaaGreatDoor
namespace Go.Proofs.YtnobempbcdkoaaaGreatDoor
open Go.RowKit

theorem nodup_le : ∀ (n : Nat) (L : List Nat), L.Nodup → (∀ j ∈ L, j < n) → L.length ≤ n
  | 0, [], _, _ => Nat.le_refl _
  | 0, x :: _, _, h => absurd (h x (List.mem_cons_self ..)) (Nat.not_lt_zero _)
  | n + 1, L, hd, h => by
    by_cases hm : n ∈ L
    · have h1 := nodup_le n (L.erase n) (hd.erase n) (fun j hj => by
        obtain ⟨h2, h3⟩ := (List.Nodup.mem_erase_iff hd).1 hj
        have := h j h3
        omega)
      rw [List.length_erase_of_mem hm] at h1
      omega
    · have h1 := nodup_le n L hd (fun j hj => by
        have := h j hj
        have : j ≠ n := fun e => hm (e ▸ hj)
        omega)
      omega
theorem nxt_lnk {a : Int} (h0 : 0 ≤ a) (h1 : a ≤ 1048576) : nxtW (lnkW a) = a ∧ isLinkW (lnkW a) = true := by
  have hl : linkOk a = true := linkOk_iff.2 ⟨h0, h1⟩
  obtain ⟨_, _, h2, _, h3, _⟩ := link_facts hl
  have e : lnkW a = hLink a := by unfold lnkW; rw [hl]
  rw [e]
  refine ⟨?_, h2⟩
  unfold nxtW
  rw [h2]
  exact h3
/-- From an address on, the slots of this list are threaded. -/
def Thr (ws : List Int) : Int → List Nat → Prop
  | a, [] => a = 0
  | a, j :: L => a = j + 1 ∧ j < ws.length ∧ isLinkW (ws.getD j 0) = true ∧ Thr ws (nxtW (ws.getD j 0)) L
theorem Thr.lt {ws : List Int} : ∀ {a : Int} {L : List Nat}, Thr ws a L → ∀ j ∈ L, j < ws.length
  | _, [], _, _, hj => by cases hj
  | _, _ :: _, h, i, hi => by
    rcases List.mem_cons.1 hi with rfl | hi
    · exact h.2.1
    · exact Thr.lt h.2.2.2 i hi
theorem Thr.set {ws : List Int} {i : Nat} {x : Int} : ∀ {a : Int} {L : List Nat}, Thr ws a L → i ∉ L → Thr (ws.set i x) a L
  | _, [], h, _ => h
  | _, j :: _, h, hi => by
    obtain ⟨h1, h2, h3, h4⟩ := h
    have hij : i ≠ j := fun e => hi (e ▸ List.mem_cons_self ..)
    have e : (ws.set i x).getD j 0 = ws.getD j 0 := by rw [getD_setJ, if_neg (fun h => hij h.1)]
    refine ⟨h1, by rw [List.length_set]; exact h2, by rw [e]; exact h3, ?_⟩
    rw [e]
    exact h4.set (fun hh => hi (List.mem_cons_of_mem _ hh))
theorem Thr.head {ws : List Int} {a : Int} {L : List Nat} (h : Thr ws a L) : a = match L with | [] => 0 | j :: _ => (j : Int) + 1 := by
  cases L
  · exact h
  · exact h.1
theorem Thr.bd {ws : List Int} {a : Int} {L : List Nat} (h : Thr ws a L) : 0 ≤ a ∧ a ≤ ws.length := by
  cases L with
  | nil => have : a = 0 := h; omega
  | cons j L => have := h.1; have := h.2.1; omega
theorem Thr.put {ws : List Int} {a : Int} {L : List Nat} {j : Nat} (h : Thr ws a L) (hj : j < ws.length) (hn : j ∉ L) (hw : ws.length ≤ 1048576) : Thr (ws.set j (lnkW a)) (j + 1) (j :: L) := by
  obtain ⟨b0, b1⟩ := h.bd
  obtain ⟨e1, e2⟩ := nxt_lnk b0 (by omega)
  have e : (ws.set j (lnkW a)).getD j 0 = lnkW a := by rw [getD_setJ, if_pos ⟨rfl, hj⟩]
  refine ⟨rfl, by rw [List.length_set]; exact hj, by rw [e]; exact e2, ?_⟩
  rw [e, e1]
  exact h.set hn
/-- The class of an address's block. -/
def clsA (c : Cf) (ks : List Int) (a : Int) : Int := ks.getD ((a - 1) / c.c1).toNat 0
def updH (H : Nat → List Nat) (k : Nat) (L : List Nat) : Nat → List Nat := fun i => if i = k then L else H i
/-- What is in the lists. -/
structure LInv (c : Cf) (s : LS) (H : Nat → List Nat) : Prop where
  thr : ∀ k, k < 4 → Thr s.ws (s.f k) (H k)
  cls : ∀ k, k < 4 → ∀ j ∈ H k, ownB c s.ks (j + 1) = true ∧ clsA c s.ks (j + 1) = k
  nd : ∀ k, k < 4 → (H k).Nodup
  mem : ∀ j, j < s.ws.length → (s.M (j + 1) = true ↔ ∃ k, k < 4 ∧ j ∈ H k)
  zero : s.M 0 = false
  many : ∀ k, k < 4 → s.m k = (H k).length
  wle : s.ws.length ≤ 1048576
variable {c : Cf} {s : LS} {H : Nat → List Nat}
theorem LInv.start (ws ks : List Int) (hw : ws.length ≤ 1048576) : LInv c ⟨ws, ks, fun _ => false, fun _ => 0, fun _ => 0⟩ (fun _ => []) :=
  ⟨fun _ _ => rfl, fun _ _ _ hj => (List.not_mem_nil hj).elim, fun _ _ => List.nodup_nil, fun _ _ => ⟨fun h => (Bool.noConfusion h), fun ⟨_, ⟨_, h⟩⟩ => (List.not_mem_nil h).elim⟩, rfl, fun _ _ => rfl, hw⟩
theorem LInv.len_le (h : LInv c s H) {k : Nat} (hk : k < 4) : (H k).length ≤ s.ws.length := nodup_le _ _ (h.nd k hk) (fun j hj => (h.thr k hk).lt j hj)
/-- A slot is in the list of its class, or in none. -/
theorem LInv.of_own (h : LInv c s H) {j k : Nat} (hk : k < 4) (hj : j < s.ws.length) (hc : clsA c s.ks (j + 1) = k) : s.M (j + 1) = true ↔ j ∈ H k := by
  rw [h.mem j hj]
  refine ⟨fun ⟨i, hi, hm⟩ => ?_, fun hm => ⟨k, hk, hm⟩⟩
  have h1 := (h.cls i hi j hm).2
  rw [hc] at h1
  obtain rfl : k = i := by omega
  exact hm
theorem LInv.put (h : LInv c s H) {j k : Nat} (hk : k < 4) (hj : j < s.ws.length) (ho : ownB c s.ks (j + 1) = true) (hc : clsA c s.ks (j + 1) = k) (hM : s.M (j + 1) = false) : LInv c (s.put j k) (updH H k (j :: H k)) := by
  have hno : ∀ i, i < 4 → j ∉ H i := fun i hi hm => by
    rw [(h.mem j hj).2 ⟨i, hi, hm⟩] at hM
    cases hM
  refine ⟨fun i hi => ?_, fun i hi x hx => ?_, fun i hi => ?_, fun x hx => ?_, ?_, fun i hi => ?_, ?_⟩
  · show Thr (s.ws.set j _) (upd s.f k (j + 1) i) (updH H k (j :: H k) i)
    unfold upd updH
    split
    · exact (h.thr k hk).put hj (hno k hk) h.wle
    · exact (h.thr i hi).set (hno i hi)
  · unfold updH at hx
    split at hx
    · rename_i e
      subst e
      rcases List.mem_cons.1 hx with rfl | hx
      · exact ⟨ho, hc⟩
      · exact h.cls i hi x hx
    · exact h.cls i hi x hx
  · unfold updH
    split
    · exact List.nodup_cons.2 ⟨hno k hk, h.nd k hk⟩
    · exact h.nd i hi
  · have hx' : x < s.ws.length := by
      have e : (s.put j k).ws.length = s.ws.length := List.length_set
      omega
    show (if x + 1 = j + 1 then true else s.M (x + 1)) = true ↔ _
    by_cases e : x = j
    · subst e
      rw [if_pos rfl]
      exact ⟨fun _ => ⟨k, hk, by unfold updH; rw [if_pos rfl]; exact List.mem_cons_self ..⟩, fun _ => rfl⟩
    · rw [if_neg (by omega), h.mem x hx']
      refine ⟨fun ⟨i, hi, hm⟩ => ⟨i, hi, ?_⟩, fun ⟨i, hi, hm⟩ => ⟨i, hi, ?_⟩⟩
      · unfold updH
        split
        · rename_i e2
          exact List.mem_cons_of_mem _ (e2 ▸ hm)
        · exact hm
      · unfold updH at hm
        split at hm
        · rename_i e2
          rcases List.mem_cons.1 hm with h1 | h1
          · exact absurd h1 e
          · exact e2 ▸ h1
        · exact hm
  · show (if 0 = j + 1 then true else s.M 0) = false
    rw [if_neg (by omega)]
    exact h.zero
  · show upd s.m k (s.m k + 1) i = _
    unfold upd updH
    split
    · rename_i e
      subst e
      rw [h.many i hi]
      simp
    · exact h.many i hi
  · show (s.ws.set j _).length ≤ _
    rw [List.length_set]
    exact h.wle
/-- Behind Take of class k's first slot j + 1. -/
def LS.tak (s : LS) (j k : Nat) : LS :=
  { s with M := fun x => if x = j + 1 then false else s.M x, f := upd s.f k (nxtW (s.ws.getD j 0)), m := upd s.m k (s.m k - 1) }
theorem LInv.tak (h : LInv c s H) {j k : Nat} {L : List Nat} (hk : k < 4) (hL : H k = j :: L) : LInv c (s.tak j k) (updH H k L) := by
  have hT := h.thr k hk
  have hN := h.nd k hk
  have hmm := h.many k hk
  rw [hL] at hT hN hmm
  obtain ⟨t1, t2, t3, t4⟩ := hT
  obtain ⟨n1, n2⟩ := List.nodup_cons.1 hN
  have hcj := (h.cls k hk j (by rw [hL]; exact List.mem_cons_self ..)).2
  refine ⟨fun i hi => ?_, fun i hi x hx => ?_, fun i hi => ?_, fun x hx => ?_, ?_, fun i hi => ?_, h.wle⟩
  · show Thr s.ws (upd s.f k _ i) (updH H k L i)
    unfold upd updH
    split
    · exact t4
    · exact h.thr i hi
  · unfold updH at hx
    split at hx
    · rename_i e
      subst e
      exact h.cls i hi x (by rw [hL]; exact List.mem_cons_of_mem _ hx)
    · exact h.cls i hi x hx
  · unfold updH
    split
    · exact n2
    · exact h.nd i hi
  · have hx' : x < s.ws.length := hx
    show (if x + 1 = j + 1 then false else s.M (x + 1)) = true ↔ _
    by_cases e : x = j
    · subst e
      rw [if_pos rfl]
      refine ⟨fun hh => (nomatch hh), fun ⟨i, hi, hm⟩ => ?_⟩
      unfold updH at hm
      split at hm
      · exact absurd hm n1
      · rename_i e2
        have h1 := (h.cls i hi x hm).2
        rw [hcj] at h1
        omega
    · rw [if_neg (by omega), h.mem x hx']
      refine ⟨fun ⟨i, hi, hm⟩ => ⟨i, hi, ?_⟩, fun ⟨i, hi, hm⟩ => ⟨i, hi, ?_⟩⟩
      · unfold updH
        split
        · rename_i e2
          subst e2
          rw [hL] at hm
          rcases List.mem_cons.1 hm with h1 | h1
          · exact absurd h1 e
          · exact h1
        · exact hm
      · unfold updH at hm
        split at hm
        · rename_i e2
          subst e2
          rw [hL]
          exact List.mem_cons_of_mem _ hm
        · exact hm
  · show (if 0 = j + 1 then false else s.M 0) = false
    rw [if_neg (by omega)]
    exact h.zero
  · show upd s.m k (s.m k - 1) i = _
    unfold upd updH
    split
    · rename_i e
      subst e
      rw [hmm]
      simp
    · exact h.many i hi
theorem clsA_nat {j : Nat} (hc : c.ok = true) (ho : ownB c s.ks (j + 1) = true) : ∃ k : Nat, k < 4 ∧ clsA c s.ks (j + 1) = k := by
  obtain ⟨b, h1, _, _, h4, _⟩ := mem_of_own hc ho
  obtain ⟨k0, k1⟩ := isCls_iff.1 h4
  refine ⟨(s.ks.getD b 0).toNat, by omega, ?_⟩
  unfold clsA
  rw [h1]
  show s.ks.getD b 0 = _
  omega
theorem own_bd {a : Int} {ks : List Int} (ho : ownB c ks a = true) : 1 ≤ a ∧ a ≤ c.c0 * c.c1 := by
  unfold ownB at ho
  simp only [Bool.and_eq_true, decide_eq_true_eq] at ho
  obtain ⟨_, a1, a2⟩ := blkOk_iff.1 ho.1
  exact ⟨a1, a2⟩
end Go.Proofs.YtnobempbcdkoaaaGreatDoor
namespace Go.Proofs.YtnobempbcdkoaaaGreatDoor
open Go.RowKit

variable {W w : World} {A : LA} {c : Cf} {s : LS} {H : Nat → List Nat}
theorem isCls_nat {k : Nat} (hk : k < 4) : isCls (k : Int) = true := isCls_iff.2 ⟨by omega, by omega⟩
theorem lists_Put_ok (j k : Nat) (h : LsAt W w A c s) (hj : j < s.ws.length) (ho : ownB c s.ks (j + 1) = true) (hk : k < 4) (hc : clsA c s.ks (j + 1) = k) (hM : s.M (j + 1) = false) (hm : 0 ≤ s.m k ∧ s.m k ≤ 2097152) (hL : Laid W) :
    Calls Tryz.prog 132 #[.pointer (some ⟨A.p, 0, none⟩), .int .i64 (j + 1)] w fun e w' => e = .returned (.int .i64 0) ∧ Touch (LT A) w w' ∧ LsAt W w' A c (s.put j k) := by
  have hmf := hmkf
  have H := Lib.hid (And.intro h (And.intro hL (And.intro hj (And.intro hM (And.intro ho (And.intro hc (And.intro hk hm)))))))
  clear h hL hj ho hk hc hM hm
  go_enter Tryz.func132, Tryz.ntmps132
  go_wp2_with fail
  obtain ⟨W1, hW1⟩ : ∃ W1, W1 = (w.alloc (Obj.cells #[.pointer (some ⟨A.p, 0, none⟩)] 107)).alloc (Obj.cells #[.int .i64 (j + 1)] 3) := ⟨_, rfl⟩
  obtain ⟨b, hb⟩ : ∃ b, b = w.heap.size := ⟨_, rfl⟩
  rw [← hW1, ← hb]
  have hx0 : W1.heap[b]? = some (.cells #[.pointer (some ⟨A.p, 0, none⟩)] 107) := by rw [hW1, hb]; exact alloc2_0 w _ _
  have hx1 : W1.heap[b + 1]? = some (.cells #[.int .i64 (j + 1)] 3) := by rw [hW1, hb]; exact alloc2_1 w _ _
  have hT1 : Touch nob w W1 := by rw [hW1]; (repeat (first | with_reducible exact Touch.refl _ _ | with_reducible assumption | with_reducible apply Touch.alloc | with_reducible apply Touch.drewN | with_reducible apply Touch.drew | with_reducible refine Touch.setCell ?_ (.inr (by first | omega | (simp; done) | (simp; omega))) _))
  obtain ⟨c0, f0⟩ := box1 hx0
  obtain ⟨c1, f1⟩ := box1 hx1
  obtain ⟨ct, hbt⟩ := (H.out.1.old hT1).tb
  obtain ⟨d0, d1, -, -, -⟩ := box11 (H.out.1.old hT1).box
  have HX := Lib.hid (And.intro hT1 (And.intro hx0 (And.intro hx1 (And.intro hbt (And.intro hb trivial)))))
  clear hT1 hx0 hx1 hbt hb hW1 d0
  go_wp2_with (go_at_call 159; fail)
  go_enter Tryz.func159, Tryz.ntmps159
  go_wp2_with (go_at_call 143; fail)
  refine (blk_Owner _ HX.out.2.2.2.1 (H.out.2.1.old (H.out.1.old HX.out.1).base).lim (H.out.2.1.old (H.out.1.old HX.out.1).base).siz).mono ?_
  rintro e W2 ⟨rfl, hT2⟩
  obtain ⟨X, hX⟩ : ∃ X, (((j : Int) + 1) - 1) / c.c1 = X := ⟨_, rfl⟩
  have hc := H.out.2.2.2.2.2.1
  unfold clsA at hc
  rw [hX] at hc
  rw [H.out.2.2.2.2.1, show owV c s.ks ((j : Int) + 1) true = .tuple #[.int .i64 X, .int .i64 k, .bool true] by unfold owV; rw [hX, hc]]
  clear hX hc c0 f0 c1 f1 d1
  have hy0 := blk_touch HX.out.2.1 hT2 (fun x => x)
  have hy1 := blk_touch HX.out.2.2.1 hT2 (fun x => x)
  have H2 := Lib.hid (And.intro (HX.out.1.trans hT2) (And.intro hy0 hy1))
  clear hT2 hy0 hy1
  go_wp2_with (go_at_call 160; fail)
  refine (lists_Put1_ok j k b (b + 1) (H.out.1.old H2.out.1) H.out.2.2.1 H.out.2.2.2.2.2.2.1 H.out.2.2.2.1 H.out.2.2.2.2.2.2.2 H2.out.2.1 H2.out.2.2 ⟨?_, ?_⟩).mono ?_
  · intro hb
    have h1 := H.out.1.lt
    have h2 := HX.out.2.2.2.2.1
    unfold LA.all at hb
    simp only [List.mem_cons, List.not_mem_nil, or_false] at hb
    omega
  · intro hb
    have h1 := H.out.1.lt
    have h2 := HX.out.2.2.2.2.1
    unfold LA.all at hb
    simp only [List.mem_cons, List.not_mem_nil, or_false] at hb
    omega
  rintro e W3 ⟨rfl, hT3, h3⟩
  have H3 := Lib.hid (And.intro ((H2.out.1.mono (fun _ _ x => x.elim)).trans hT3) h3)
  clear hT3 h3
  go_wp2
  go_ret
  exact ⟨rfl, H3.out⟩
theorem lists_Put_no (a : Int) (h : LsAt W w A c s) (ho : ownB c s.ks a = false) (hL : Laid W) :
    Calls Tryz.prog 132 #[.pointer (some ⟨A.p, 0, none⟩), .int .i64 a] w fun e w' => e = .returned (.int .i64 1) ∧ Touch nob w w' := by
  have hmf := hmkf
  have H := Lib.hid (And.intro h (And.intro hL ho))
  clear h hL ho
  go_enter Tryz.func132, Tryz.ntmps132
  go_wp2_with fail
  obtain ⟨W1, hW1⟩ : ∃ W1, W1 = (w.alloc (Obj.cells #[.pointer (some ⟨A.p, 0, none⟩)] 107)).alloc (Obj.cells #[.int .i64 a] 3) := ⟨_, rfl⟩
  obtain ⟨b, hb⟩ : ∃ b, b = w.heap.size := ⟨_, rfl⟩
  rw [← hW1, ← hb]
  have hx0 : W1.heap[b]? = some (.cells #[.pointer (some ⟨A.p, 0, none⟩)] 107) := by rw [hW1, hb]; exact alloc2_0 w _ _
  have hx1 : W1.heap[b + 1]? = some (.cells #[.int .i64 a] 3) := by rw [hW1, hb]; exact alloc2_1 w _ _
  have hT1 : Touch nob w W1 := by rw [hW1]; (repeat (first | with_reducible exact Touch.refl _ _ | with_reducible assumption | with_reducible apply Touch.alloc | with_reducible apply Touch.drewN | with_reducible apply Touch.drew | with_reducible refine Touch.setCell ?_ (.inr (by first | omega | (simp; done) | (simp; omega))) _))
  obtain ⟨c0, f0⟩ := box1 hx0
  obtain ⟨c1, f1⟩ := box1 hx1
  obtain ⟨ct, hbt⟩ := (H.out.1.old hT1).tb
  obtain ⟨d0, d1, -, -, -⟩ := box11 (H.out.1.old hT1).box
  have HX := Lib.hid (And.intro hT1 (And.intro hbt trivial))
  clear hT1 hx0 hx1 hbt hb hW1 d0
  go_wp2_with (go_at_call 159; fail)
  go_enter Tryz.func159, Tryz.ntmps159
  go_wp2_with (go_at_call 143; fail)
  refine (blk_Owner _ HX.out.2.1 (H.out.2.1.old (H.out.1.old HX.out.1).base).lim (H.out.2.1.old (H.out.1.old HX.out.1).base).siz).mono ?_
  rintro e W2 ⟨rfl, hT2⟩
  rw [H.out.2.2, show owV c s.ks a false = .tuple #[.int .i64 0, .int .i64 0, .bool false] from rfl]
  have H2 := Lib.hid (HX.out.1.trans hT2)
  clear hT2 c0 f0 c1 f1 d1
  go_wp2
  go_ret
  exact ⟨rfl, H2.out⟩
theorem set_PutIn (j : Nat) (b : Bool) (h : LsAt W w A c s) (hj : j < s.ws.length) (hM : s.M (j + 1) = b) :
    Calls Tryz.prog 99 #[.pointer (some ⟨A.pi, 0, none⟩), .int .i64 (j + 1), .bool b] w fun e w' => e = .returned (.bool false) ∧ w = w' := by
  obtain ⟨ci, wi, hd⟩ := h.se
  have := set_Put_same (j + 1) b hd (by omega) hM
  rw [show ((j + 1 : Nat) : Int) = (j : Int) + 1 by omega] at this
  exact this
theorem lists_Put1_in (j k bl ba : Nat) (h : LsAt W w A c s) (hj : j < s.ws.length) (hM : s.M (j + 1) = true) (hbl : w.heap[bl]? = some (.cells #[.pointer (some ⟨A.p, 0, none⟩)] 107)) (hba : w.heap[ba]? = some (.cells #[.int .i64 (j + 1)] 3)) :
    Calls Tryz.prog 160 #[.int .i64 k, .pointer (some ⟨bl, 0, none⟩), .pointer (some ⟨ba, 0, none⟩)] w fun e w' => e = .returned (.int .i64 11) ∧ Touch nob w w' := by
  obtain ⟨d0, d1, d2, d3, -⟩ := box11 h.box
  obtain ⟨c0, f0⟩ := box1 hbl
  obtain ⟨c1, f1⟩ := box1 hba
  have H := Lib.hid (And.intro h (And.intro hj hM))
  have HS := Lib.hid (fun w' (ht : Touch nob w w') => show w'.cell? ⟨bl, 0, none⟩ = some (.pointer (some ⟨A.p, 0, none⟩)) ∧ w'.cell? ⟨ba, 0, none⟩ = some (.int .i64 (j + 1)) ∧ w'.cell? ⟨A.p, 2, none⟩ = some (.pointer (some ⟨A.pi, 0, none⟩)) from
    ⟨(ht.cell (blk_lt hbl) (fun x => x)).trans c0, (ht.cell (blk_lt hba) (fun x => x)).trans c1, (ht.cell (blk_lt h.box) (fun x => x)).trans d2⟩)
  clear h hj hM hbl hba d0 d1 d2 d3 c0 c1 f0 f1
  have hT0 := Touch.refl nob w
  go_enter Tryz.func160, Tryz.ntmps160
  go_wp2_with fail
  go_region_held3 (fun w' => w'.cell? ⟨bl, 0, none⟩ = some (.pointer (some ⟨A.p, 0, none⟩)) ∧ w'.cell? ⟨ba, 0, none⟩ = some (.int .i64 (j + 1)) ∧ w'.cell? ⟨A.p, 2, none⟩ = some (.pointer (some ⟨A.pi, 0, none⟩))) (first | exact HS.out _ (by first | assumption | exact hT0.drew)) (first
    | (go_at_call 99; refine (set_PutIn j true (H.out.1.old (Touch.drew (Touch.refl _ _))) H.out.2.1 H.out.2.2).mono ?_; rintro e w1 ⟨rfl, hw1⟩; have hT1 : Touch nob w w1 := hw1 ▸ hT0.drew; clear hw1))
  go_wp2
  go_ret
  exact ⟨rfl, hT1⟩
theorem lists_Put_in (j k : Nat) (h : LsAt W w A c s) (hj : j < s.ws.length) (ho : ownB c s.ks (j + 1) = true) (hc : clsA c s.ks (j + 1) = k) (hM : s.M (j + 1) = true) (hL : Laid W) :
    Calls Tryz.prog 132 #[.pointer (some ⟨A.p, 0, none⟩), .int .i64 (j + 1)] w fun e w' => e = .returned (.int .i64 11) ∧ Touch nob w w' := by
  have hmf := hmkf
  have H := Lib.hid (And.intro h (And.intro hL (And.intro hj (And.intro hM (And.intro ho hc)))))
  clear h hL hj ho hc hM
  go_enter Tryz.func132, Tryz.ntmps132
  go_wp2_with fail
  obtain ⟨W1, hW1⟩ : ∃ W1, W1 = (w.alloc (Obj.cells #[.pointer (some ⟨A.p, 0, none⟩)] 107)).alloc (Obj.cells #[.int .i64 (j + 1)] 3) := ⟨_, rfl⟩
  obtain ⟨b, hb⟩ : ∃ b, b = w.heap.size := ⟨_, rfl⟩
  rw [← hW1, ← hb]
  have hx0 : W1.heap[b]? = some (.cells #[.pointer (some ⟨A.p, 0, none⟩)] 107) := by rw [hW1, hb]; exact alloc2_0 w _ _
  have hx1 : W1.heap[b + 1]? = some (.cells #[.int .i64 (j + 1)] 3) := by rw [hW1, hb]; exact alloc2_1 w _ _
  have hT1 : Touch nob w W1 := by rw [hW1]; (repeat (first | with_reducible exact Touch.refl _ _ | with_reducible assumption | with_reducible apply Touch.alloc | with_reducible apply Touch.drewN | with_reducible apply Touch.drew | with_reducible refine Touch.setCell ?_ (.inr (by first | omega | (simp; done) | (simp; omega))) _))
  obtain ⟨c0, f0⟩ := box1 hx0
  obtain ⟨c1, f1⟩ := box1 hx1
  obtain ⟨ct, hbt⟩ := (H.out.1.old hT1).tb
  obtain ⟨d0, d1, -, -, -⟩ := box11 (H.out.1.old hT1).box
  have HX := Lib.hid (And.intro hT1 (And.intro hx0 (And.intro hx1 (And.intro hbt trivial))))
  clear hT1 hx0 hx1 hbt hb hW1 d0
  go_wp2_with (go_at_call 159; fail)
  go_enter Tryz.func159, Tryz.ntmps159
  go_wp2_with (go_at_call 143; fail)
  refine (blk_Owner _ HX.out.2.2.2.1 (H.out.2.1.old (H.out.1.old HX.out.1).base).lim (H.out.2.1.old (H.out.1.old HX.out.1).base).siz).mono ?_
  rintro e W2 ⟨rfl, hT2⟩
  obtain ⟨X, hX⟩ : ∃ X, (((j : Int) + 1) - 1) / c.c1 = X := ⟨_, rfl⟩
  have hc := H.out.2.2.2.2.2
  unfold clsA at hc
  rw [hX] at hc
  rw [H.out.2.2.2.2.1, show owV c s.ks ((j : Int) + 1) true = .tuple #[.int .i64 X, .int .i64 k, .bool true] by unfold owV; rw [hX, hc]]
  clear hX hc c0 f0 c1 f1 d1
  have hy0 := blk_touch HX.out.2.1 hT2 (fun x => x)
  have hy1 := blk_touch HX.out.2.2.1 hT2 (fun x => x)
  have H2 := Lib.hid (And.intro (HX.out.1.trans hT2) (And.intro hy0 hy1))
  clear hT2 hy0 hy1
  go_wp2_with (go_at_call 160; fail)
  refine (lists_Put1_in j k b (b + 1) (H.out.1.old H2.out.1) H.out.2.2.1 H.out.2.2.2.1 H2.out.2.1 H2.out.2.2).mono ?_
  rintro e W3 ⟨rfl, hT3⟩
  have H3 := Lib.hid (H2.out.1.trans hT3)
  clear hT3
  go_wp2
  go_ret
  exact ⟨rfl, H3.out⟩
theorem lists_Has (a : Int) (h : LsAt W w A c s) :
    Calls Tryz.prog 144 #[.pointer (some ⟨A.p, 0, none⟩), .int .i64 a] w fun e w' => e = .returned (.bool (hasB s.M (s.ws.length + 1) a)) ∧ w = w' := by
  obtain ⟨-, -, d2, -, -⟩ := box11 h.box
  obtain ⟨ci, wi, hd⟩ := h.se
  have HD := Lib.hid hd
  clear hd h
  go_enter Tryz.func144, Tryz.ntmps144
  go_wp2_with (go_at_call 55; fail)
  refine (set_Has a HD.out).mono ?_
  rintro e w1 ⟨rfl, rfl⟩
  go_wp2
  go_ret
  exact ⟨rfl, rfl⟩
end Go.Proofs.YtnobempbcdkoaaaGreatDoor
namespace Go.Proofs.YtnobempbcdkoaaaGreatDoor
open Go.RowKit

variable {W w : World} {A : LA} {c : Cf} {s : LS} {H : Nat → List Nat}
theorem set_one1 {f m : Nat → Int} {v0 v1 v2 : Value} (k : Nat) (hk : k < 4) (x : Int) :
    ((#[v0, v1, v2, .int .i64 (f 0), .int .i64 (f 1), .int .i64 (f 2), .int .i64 (f 3), .int .i64 (m 0), .int .i64 (m 1), .int .i64 (m 2), .int .i64 (m 3)] : Array Value).setIfInBounds (3 + k) (.int .i64 x)) =
    #[v0, v1, v2, .int .i64 (upd f k x 0), .int .i64 (upd f k x 1), .int .i64 (upd f k x 2), .int .i64 (upd f k x 3), .int .i64 (m 0), .int .i64 (m 1), .int .i64 (m 2), .int .i64 (m 3)] := by
  rcases (show k = 0 ∨ k = 1 ∨ k = 2 ∨ k = 3 by omega) with rfl | rfl | rfl | rfl <;> rfl
theorem set_one2 {f m : Nat → Int} {v0 v1 v2 : Value} (k : Nat) (hk : k < 4) (x : Int) :
    ((#[v0, v1, v2, .int .i64 (f 0), .int .i64 (f 1), .int .i64 (f 2), .int .i64 (f 3), .int .i64 (m 0), .int .i64 (m 1), .int .i64 (m 2), .int .i64 (m 3)] : Array Value).setIfInBounds (7 + k) (.int .i64 x)) =
    #[v0, v1, v2, .int .i64 (f 0), .int .i64 (f 1), .int .i64 (f 2), .int .i64 (f 3), .int .i64 (upd m k x 0), .int .i64 (upd m k x 1), .int .i64 (upd m k x 2), .int .i64 (upd m k x 3)] := by
  rcases (show k = 0 ∨ k = 1 ∨ k = 2 ∨ k = 3 by omega) with rfl | rfl | rfl | rfl <;> rfl
/-- Behind a store into the lists' box. -/
theorem LsAt.boxed {w' : World} {f m : Nat → Int} (h : LsAt W w A c s) (hT : Touch (fun b => b = A.p) w w') (hb : w'.heap[A.p]? = some (.cells #[.pointer (some ⟨A.pa, 0, none⟩), .pointer (some ⟨A.pt, 0, none⟩), .pointer (some ⟨A.pi, 0, none⟩), .int .i64 (f 0), .int .i64 (f 1), .int .i64 (f 2), .int .i64 (f 3), .int .i64 (m 0), .int .i64 (m 1), .int .i64 (m 2), .int .i64 (m 3)] 198)) : LsAt W w' A c { s with f := f, m := m } := by
  obtain ⟨ca, lo, st, a⟩ := h.ar
  obtain ⟨ct, b⟩ := h.tb
  obtain ⟨ci, wi, d⟩ := h.se
  obtain ⟨n1, n2, n3, n4, n5, n6⟩ := h.ne.1
  exact ⟨h.base_LT (hT.mono fun _ _ e => .inl e), h.hi, hb, ⟨ca, lo, st, a.touch hT n1.symm n2.symm⟩, ⟨ct, b.touch hT n3.symm n4.symm⟩, ⟨ci, wi, d.touch hT n5.symm n6.symm⟩, h.len, h.wok, h.ap⟩
set_option maxHeartbeats 1000000 in
theorem lists_Take_ok (j k : Nat) (h : LsAt W w A c s) (hj : j < s.ws.length) (hf : s.f k = j + 1) (hk : k < 4) (hM : s.M (j + 1) = true) (hm : 1 ≤ s.m k ∧ s.m k ≤ 2097152) (hL : Laid W) :
    Calls Tryz.prog 171 #[.pointer (some ⟨A.p, 0, none⟩), .int .i64 k] w fun e w' => e = .returned (.tuple #[.int .i64 (j + 1), .int .i64 0]) ∧ Touch (LT A) w w' ∧ LsAt W w' A c (s.tak j k) := by
  obtain ⟨-, -, -, d3, -⟩ := box11 h.box
  obtain ⟨df, -⟩ := d3 k hk
  rw [hf] at df
  obtain ⟨m0, m1⟩ := hm
  obtain ⟨y, hy⟩ : ∃ y, nxtW (s.ws.getD j 0) = y := ⟨_, rfl⟩
  have H := Lib.hid (And.intro h (And.intro hL (And.intro hj (And.intro hM (And.intro hk hy)))))
  have hki : (k : Int) < 4 := by omega
  have hj0 : ¬ ((j : Int) + 1 = 0) := by omega
  clear h hL hj hM hk d3 hf hy
  go_enter Tryz.func171, Tryz.ntmps171
  go_wp2_with (go_at_call 175; fail)
  refine (class_Is _ _).mono ?_
  rintro e w1 ⟨rfl, rfl⟩
  rw [isCls_nat H.out.2.2.2.2.1]
  have HN := Lib.hid (fun w0 (h0 : LsAt W w0 A c s) => show Calls Tryz.prog 181 #[.pointer (some ⟨A.p, 0, none⟩), .int .i64 (j + 1)] w0 fun e w' => e = .returned (.int .i64 y) ∧ Touch (fun b => b = A.pa) w0 w' ∧ LsAt W w' A c s from by
    have := lists_next j h0 H.out.2.2.1 H.out.2.1
    rwa [H.out.2.2.2.2.2] at this)
  have HS := Lib.hid (fun w' (ht : Touch (fun b => b = A.pa) w w') => show w'.cell? ⟨A.p, 3 + k, none⟩ = some (.int .i64 (j + 1)) ∧ w'.frozen? ⟨A.p, 3 + k, none⟩ = false from by
    have hb := blk_touch H.out.1.box ht H.out.1.ne.1.1
    refine ⟨(ht.cell (blk_lt H.out.1.box) H.out.1.ne.1.1).trans df, ?_⟩
    simp [World.frozen?, hb])
  have hT0 := Touch.refl (fun b => b = A.pa) w
  go_wp2_with fail
  clear df
  go_region_held3 (fun _ => True) (trivial) (first
    | (go_at_call 181; refine (HN.out _ (H.out.1.old (Touch.drew (Touch.refl _ _)))).mono ?_; rintro e w1 ⟨rfl, hT1', h1⟩; have hT1 := hT0.drew.trans hT1'; have H1 := Lib.hid h1; obtain ⟨hc1, hf1⟩ := HS.out _ hT1; clear hT1' h1))
  have H2 : Hid (LsAt W (w1.setCell ⟨A.p, 3 + k, none⟩ (.int .i64 y)) A c { s with f := upd s.f k y }) :=
    H1.out.boxed (Touch.setCell (S := fun b => b = A.p) (Touch.refl _ _) (.inl rfl) _) (by rw [set_cells (3 + k) _ H1.out.box, set_one1 k H.out.2.2.2.2.1])
  have HT2 : Hid (Touch (LT A) w (w1.setCell ⟨A.p, 3 + k, none⟩ (.int .i64 y))) := (hT1.mono (S' := LT A) fun _ _ e => .inr (.inl e)).setCell (.inl (.inl rfl)) _
  obtain ⟨W2, hW2⟩ : ∃ W2, W2 = w1.setCell ⟨A.p, 3 + k, none⟩ (.int .i64 y) := ⟨_, rfl⟩
  rw [← hW2] at H2 HT2 ⊢
  obtain ⟨-, -, -, d3, d4⟩ := box11 H2.out.box
  obtain ⟨-, dm⟩ := d3 k H.out.2.2.2.2.1
  have hf2 := d4 (7 + k)
  clear hW2 hT0 hT1 hc1 hf1 H1 HS HN d3 d4
  go_wp2
  go_region
  all_goals
    obtain ⟨W3, hW3⟩ : ∃ W3, W3 = (W2.setCell ⟨A.p, 7 + k, none⟩ (.int .i64 (s.m k - 1))).drew := ⟨_, rfl⟩
    have H3 : Hid (LsAt W W3 A c { s with f := upd s.f k y, m := upd s.m k (s.m k - 1) }) := by
      rw [hW3]
      exact H2.out.boxed ((Touch.setCell (S := fun b => b = A.p) (Touch.refl _ _) (.inl rfl) _).drew) (by
        show (W2.setCell ⟨A.p, 7 + k, none⟩ (.int .i64 (s.m k - 1))).heap[A.p]? = _
        rw [set_cells (7 + k) _ H2.out.box, set_one2 k H.out.2.2.2.2.1])
    have HT3 : Hid (Touch (LT A) w W3) := by
      rw [hW3]
      exact ((HT2.out.setCell (.inl (.inl rfl)) _).drew)
    rw [← hW3]
    obtain ⟨-, -, d2, -, -⟩ := box11 H3.out.box
    clear hW3 dm hf2 H2 HT2
    go_wp2_with (go_at_call 99; fail)
    refine (set_PutV j false H3.out H.out.2.2.1 (by rw [H.out.2.2.2.1]; simp)).mono ?_
    rintro e W4 ⟨rfl, hT4, h4⟩
    have H4 := Lib.hid (And.intro (HT3.out.trans (hT4.mono fun _ _ e => .inr (.inr (.inr e)))) h4)
    clear hT4 h4
    go_wp2
    go_ret2
    refine ⟨rfl, H4.out.1, ?_⟩
    have := H4.out.2
    rw [← H.out.2.2.2.2.2] at this
    exact this
theorem lists_Take_none (k : Nat) (h : LsAt W w A c s) (hk : k < 4) (hf : s.f k = 0) :
    Calls Tryz.prog 171 #[.pointer (some ⟨A.p, 0, none⟩), .int .i64 k] w fun e w' => e = .returned (.tuple #[.int .i64 0, .int .i64 12]) ∧ w = w' := by
  obtain ⟨-, -, -, d3, -⟩ := box11 h.box
  obtain ⟨df, -⟩ := d3 k hk
  rw [hf] at df
  have hki : (k : Int) < 4 := by omega
  have HK := Lib.hid (isCls_nat hk)
  clear h d3 hk hf
  go_enter Tryz.func171, Tryz.ntmps171
  go_wp2_with (go_at_call 175; fail)
  refine (class_Is _ _).mono ?_
  rintro e w1 ⟨rfl, rfl⟩
  rw [HK.out]
  go_wp2
  go_ret2
  exact ⟨rfl, rfl⟩
theorem lists_Take_arg (k : Int) (a : Addr) (hk : isCls k = false) (w : World) :
    Calls Tryz.prog 171 #[.pointer (some a), .int .i64 k] w fun e w' => e = .returned (.tuple #[.int .i64 0, .int .i64 1]) ∧ w = w' := by
  have HK := Lib.hid hk
  clear hk
  go_enter Tryz.func171, Tryz.ntmps171
  go_wp2_with (go_at_call 175; fail)
  refine (class_Is _ _).mono ?_
  rintro e w1 ⟨rfl, rfl⟩
  rw [HK.out]
  go_wp2
  go_ret2
  exact ⟨rfl, rfl⟩
theorem lists_nil (k : Int) (w : World) :
    (Calls Tryz.prog 171 #[.pointer none, .int .i64 k] w fun e w' => e = .returned (.tuple #[.int .i64 0, .int .i64 11]) ∧ w = w') ∧ Calls Tryz.prog 144 #[.pointer none, .int .i64 k] w fun e w' => e = .returned (.bool false) ∧ w = w' := by
  refine ⟨?_, ?_⟩
  · go_enter Tryz.func171, Tryz.ntmps171
    go_wp2
    go_ret2
    exact ⟨rfl, rfl⟩
  · go_enter Tryz.func144, Tryz.ntmps144
    go_wp2
    go_ret
    exact ⟨rfl, rfl⟩
/-- What is made: lists that have none. -/
theorem lists_New_ok {pa qa ca pt qt ct n : Nat} {ws ks : List Int} {lo st : Int} (hb : Touch nob W w) (ha : ArenaAt w pa qa ca ws lo st) (ht : BlkAt w pt qt ct n c ks) (hl : (ws.length : Int) = c.c0 * c.c1) (hg : ∀ x ∈ [pa, qa, pt, qt], W.heap.size ≤ x) (hn : [pa, qa, pt, qt].Nodup) (hw : ∀ j, j < ws.length → 0 ≤ ws.getD j 0 ∧ ws.getD j 0 < 18446744073709551616) (hL : Laid W) :
    Calls Tryz.prog 121 #[.pointer (some ⟨pa, 0, none⟩), .pointer (some ⟨pt, 0, none⟩)] w fun e w' => ∃ p pi qi, e = .returned (.tuple #[.pointer (some ⟨p, 0, none⟩), .int .i64 0]) ∧ Touch nob w w' ∧ LsAt W w' ⟨p, pa, qa, pt, qt, pi, qi, n⟩ c ⟨ws, ks, fun _ => false, fun _ => 0, fun _ => 0⟩ := by
  obtain ⟨z, hz⟩ : ∃ z, ws.length = z := ⟨_, rfl⟩
  have hz1 : z ≤ 1048576 := by rw [← hz]; exact ha.len.2
  have H := Lib.hid (And.intro hb (And.intro ha (And.intro ht (And.intro hl (And.intro hg (And.intro hn (And.intro hw (And.intro hL hz))))))))
  clear hb ha ht hl hg hn hw hL hz
  go_enter Tryz.func121, Tryz.ntmps121
  go_wp2_with (go_at_call 139; fail)
  refine (blk_Config H.out.2.2.1).mono ?_
  rintro e w1 ⟨rfl, hT1⟩
  have HT1 := Lib.hid hT1
  clear hT1
  go_wp2_with (go_at_call 96; fail)
  refine (config_Words _ _ _ _ _ _ _ w1 (H.out.2.2.2.2.2.2.2.1.old (H.out.1.trans HT1.out)).lim).mono ?_
  rintro e w2 ⟨rfl, hb2⟩
  rw [show cfgOk c.c0 c.c1 c.c2 c.c3 c.c4 c.c5 c.c6 = true from H.out.2.2.1.ok, show ifOk true (cfgWords c.c0 c.c1) = (z : Int) by rw [← H.out.2.2.2.2.2.2.2.2, H.out.2.2.2.1]; rfl]
  have HT2 := Lib.hid (HT1.out.trans (Touch.of_below hb2))
  clear hb2
  go_wp2_with (go_at_call 135; fail)
  refine (arena_Len pa qa ca ws lo st w2 (H.out.2.1.touch HT2.out (fun x => x) (fun x => x))).mono ?_
  rintro e w3 ⟨rfl, rfl⟩
  rw [H.out.2.2.2.2.2.2.2.2]
  go_wp2_with (go_at_call 95; fail)
  rw [show ((z : Int) + 1) = ((z + 1 : Nat) : Int) by omega]
  refine (bits_New_ok (z + 1) (by omega) w2).mono ?_
  rintro e w4 ⟨pi, qi, ci, wi, rfl, hT4, hpi, hqi, hse⟩
  have H4 := Lib.hid (And.intro hT4 (And.intro hpi (And.intro hqi hse)))
  clear hT4 hpi hqi hse
  go_wp2
  go_ret2
  obtain ⟨hb, ha, ht, hl, hg, hn, hw, hL, hz⟩ := H.out
  obtain ⟨hT4, hpi, hqi, hse⟩ := H4.out
  have hT5 : Touch nob w4 (w4.alloc (Obj.cells #[.pointer (some ⟨pa, 0, none⟩), .pointer (some ⟨pt, 0, none⟩), .pointer (some ⟨pi, 0, none⟩), .int .i64 0, .int .i64 0, .int .i64 0, .int .i64 0, .int .i64 0, .int .i64 0, .int .i64 0, .int .i64 0] 198)) := (Touch.refl _ _).alloc _
  have hT := (HT2.out.trans hT4).trans hT5
  have l1 := blk_lt ha.box
  have l2 := ha.row.lt
  have l3 := blk_lt ht.box
  have l4 := ht.row.lt
  have l5 := blk_lt hse.box
  have l6 := hse.row.lt
  have l7 := HT2.out.size
  have l8 := hb.size
  have l9 := hT4.size
  have l10 := hse.ne
  have g1 := hg pa (by simp)
  have g2 := hg qa (by simp)
  have g3 := hg pt (by simp)
  have g4 := hg qt (by simp)
  refine ⟨w4.heap.size, pi, qi, rfl, hT, hb.trans hT, ?_, World.alloc_heap_new w4 _, ⟨ca, lo, st, ha.touch hT (fun x => x) (fun x => x)⟩, ⟨ct, ht.old hT⟩, ⟨ci, wi, ?_⟩, hl, hw, ?_⟩
  · intro x hx
    simp only [LA.all, List.mem_cons, List.not_mem_nil, or_false] at hx
    omega
  · show SetAt _ _ _ _ _ (ws.length + 1) _
    rw [hz]
    exact hse.touch hT5 (fun x => x) (fun x => x)
  · simp only [List.nodup_cons, List.mem_cons, List.not_mem_nil, not_or, or_false, not_false_eq_true, List.nodup_nil, and_true] at hn
    simp only [LA.all, List.nodup_cons, List.mem_cons, List.not_mem_nil, not_or, or_false, not_false_eq_true, List.nodup_nil, and_true]
    omega
end Go.Proofs.YtnobempbcdkoaaaGreatDoor
namespace Go.Proofs.YtnobempbcdkoaaaGreatDoor
open Go.RowKit Go.Shelf
attribute [local go_sem] Oper.semAt_some

def LzRow (B b1 : Nat) (l : List Int) (v : Value) (A : World) : Prop :=
  A.heap[b1]? = some (Obj.cells #[v] 28) ∧ A.ownsRow B 3 1 v l.length (l.map (.int .i64))
theorem LzRow.keep {B b1 : Nat} {l : List Int} {v : Value} {A A' : World} (h : LzRow B b1 l v A) (hk : ∀ k, k < A.heap.size → (k = b1 ∨ v.ownBlock = some k) → A'.heap[k]? = A.heap[k]?) : LzRow B b1 l v A' :=
  ⟨(hk _ (blk_lt h.1) (.inl rfl)).trans h.1, owns_at h.2 (fun b hb hl => hk b hl (.inr hb))⟩
/-- Between two rounds. -/
def LzI (W : World) (n0 n1 : Nat) (most : Int) (pre : List Int) (O : Nat → Prop) (A : World) : Prop :=
  Touch (fun k => k = n1) W A ∧ A.heap[n0]? = some (Obj.cells #[.int .i64 most] 3) ∧ (0 ≤ most → (pre.length : Int) ≤ most) ∧ ∃ v, LzRow W.heap.size (n1) pre v A ∧ ∀ j, O j ↔ (j = n1 ∨ v.ownBlock = some j)
def LzX (W : World) (n1 : Nat) (ys : List Int) (most : Int) (c : Code) (_ : List Int) (O : Nat → Prop) (A : World) : Prop :=
  c = Code.exit 0 ∧ Touch (fun k => k = n1) W A ∧ ∃ v, LzRow W.heap.size (n1) (ys.take most.toNat) v A ∧ ∀ j, O j ↔ (j = n1 ∨ v.ownBlock = some j)
variable {w : World} {p q cap n : Nat} {c : Cf} {ks : List Int}
end Go.Proofs.YtnobempbcdkoaaaGreatDoor
namespace Go.Proofs.YtnobempbcdkoaaaGreatDoor
open Go.RowKit Go.Shelf
attribute [local go_sem] Oper.semAt_some

/-- What the lists' iterator may turn: nothing of others but the arena's counts. -/
def AbL (pa qa : Nat) (ws : List Int) (n : Nat) (O : Nat → Prop) (A B : World) : Prop :=
  Touch (fun b => (n ≤ b ∨ b = pa) ∧ ¬ O b) A B ∧ (pa < n → qa < n → (∃ ca lo st, ArenaAt A pa qa ca ws lo st) → ∃ ca lo st, ArenaAt B pa qa ca ws lo st)
variable {pa qa : Nat} {ws : List Int}
theorem abL_T : ∀ n O A B, AbD n O A B → AbL pa qa ws n O A B :=
  fun _ _ _ _ h => ⟨Touch.mono h (fun _ _ x => ⟨.inl x.1, x.2⟩), fun h1 h2 ⟨ca, lo, st, h3⟩ => ⟨ca, lo, st, h3.touch h (fun x => Nat.not_le_of_lt h1 x.1) (fun x => Nat.not_le_of_lt h2 x.1)⟩⟩
theorem abL_M : ∀ (m n : Nat) (O O' : Nat → Prop) (A B : World), (∀ b, O' b → O b) → m ≤ n → AbL pa qa ws n O A B → AbL pa qa ws m O' A B :=
  fun _ _ _ _ _ _ h hm hab => ⟨Touch.mono hab.1 (fun _ _ hi => ⟨hi.1.imp (Nat.le_trans hm) id, fun x => hi.2 (h _ x)⟩), fun h1 h2 => hab.2 (Nat.lt_of_lt_of_le h1 hm) (Nat.lt_of_lt_of_le h2 hm)⟩
theorem abL_O : ∀ (n : Nat) (O : Nat → Prop) (A B : World) (k : Nat) (o : Obj), AbL pa qa ws n O A B → O k → A.heap[k]? = some o → o.isCells = false → B.heap[k]? = some o :=
  fun _ _ _ _ _ _ hab hO hk _ => (hab.1.block _ (Array.getElem?_eq_some_iff.1 hk).1 (fun x => x.2 hO)).trans hk
theorem AbL.trans {n : Nat} {O : Nat → Prop} {A B D : World} (h : AbL pa qa ws n O A B) (g : AbL pa qa ws n O B D) : AbL pa qa ws n O A D := ⟨h.1.trans g.1, fun h1 h2 h3 => g.2 h1 h2 (h.2 h1 h2 h3)⟩
theorem AbL.refl {n : Nat} {O : Nat → Prop} {A : World} : AbL pa qa ws n O A A := ⟨Touch.refl _ _, fun _ _ h => h⟩
variable {W0 w : World} {A : LA} {c : Cf} {s : LS}
theorem LsAt.fresh {n : Nat} {wr w' : World} (h : LsAt W0 w A c s) (hr : LsAt W0 wr A c s) (hn : w.heap.size ≤ n) (ht : Touch (fun b => n ≤ b) wr w') : LsAt W0 w' A c s := by
  have hl := h.lt
  exact hr.touch (hr.base.step ht (fun i hi => .inr (by have := h.base.size; omega))) ht (by omega) (by omega) (by omega) (by omega) (by omega) (by omega) (by omega)
def lenV : Value → Nat
  | .slice _ n _ => n
  | _ => 0
/-- The addresses of slots. -/
abbrev adr (L : List Nat) : List Int := L.map fun (x : Nat) => (x : Int) + 1
end Go.Proofs.YtnobempbcdkoaaaGreatDoor
namespace Go.Proofs.YtnobempbcdkoaaaGreatDoor
open Go.RowKit Go.Shelf
attribute [local go_sem] Oper.semAt_some

variable {pa qa : Nat} {ws : List Int}
/-- Between two rounds. -/
def LlI (pa qa : Nat) (ws : List Int) (W : World) (n0 n1 : Nat) (most : Int) (pre : List Int) (O : Nat → Prop) (A : World) : Prop :=
  Touch (fun k => k = n1 ∨ k = pa) W A ∧ A.heap[n0]? = some (Obj.cells #[.int .i64 most] 3) ∧ (0 ≤ most → (pre.length : Int) ≤ most) ∧ (∃ v, LzRow W.heap.size (n1) pre v A ∧ ∀ j, O j ↔ (j = n1 ∨ v.ownBlock = some j)) ∧ ∃ ca lo st, ArenaAt A pa qa ca ws lo st
def LlX (pa qa : Nat) (ws : List Int) (W : World) (n1 : Nat) (ys : List Int) (most : Int) (c : Code) (_ : List Int) (O : Nat → Prop) (A : World) : Prop :=
  c = Code.exit 0 ∧ Touch (fun k => k = n1 ∨ k = pa) W A ∧ (∃ v, LzRow W.heap.size (n1) (ys.take most.toNat) v A ∧ ∀ j, O j ↔ (j = n1 ∨ v.ownBlock = some j)) ∧ ∃ ca lo st, ArenaAt A pa qa ca ws lo st
variable {W0 w : World} {A : LA} {c : Cf} {s : LS}
end Go.Proofs.YtnobempbcdkoaaaGreatDoor
namespace Go.Proofs.YtnobempbcdkoaaaGreatDoor
open Go.RowKit

theorem mod_eq (n m : Int) (h0 : 0 < m) : (n.tmod m + m).tmod m = n % m := by
  have h1 := Int.tmod_lt_of_pos n h0
  have h2 : -m < n.tmod m := by
    have := Int.lt_tmod_of_pos n h0
    omega
  rw [Int.tmod_eq_emod_of_nonneg (by omega)]
  have h3 : n = n.tmod m + m * n.tdiv m := by have := Int.tmod_add_mul_tdiv n m; omega
  conv => rhs; rw [h3]
  rw [Int.add_mul_emod_self_left, Int.add_emod_right]
theorem ref02_mod (n m : Int) (h0 : 0 < m) (h1 : m ≤ 20) (w : World) :
    Calls Tryz.prog 89 #[.int .i64 n, .int .i64 m] w fun e w' => e = .returned (.int .i64 (n % m)) ∧ w = w' := by
  obtain ⟨t, ht⟩ : ∃ t, n.tmod m = t := ⟨_, rfl⟩
  obtain ⟨r, hr⟩ : ∃ r, (t + m).tmod m = r := ⟨_, rfl⟩
  have hR : n % m = r := by rw [← mod_eq n m h0, ht, hr]
  have h2 := Int.tmod_lt_of_pos n h0
  have h3 := Int.lt_tmod_of_pos n h0
  rw [ht] at h2 h3
  rw [hR]
  have hm : ¬ m = 0 := by omega
  have hm1 : ¬ m = -1 := by omega
  go_enter Tryz.func89, Tryz.ntmps89
  go_wp2
  go_ret
  exact ⟨rfl, rfl⟩
/-- The small config. -/
def little (c : Cf) : Cf := ⟨1 + c.c0 % 4, 16 + c.c1 % 20, 1 + c.c2 % 4, 1 + c.c3 % 5, c.c4 % 4, 1 + c.c5 % 4, 1 + c.c6 % 4⟩
theorem little_ok (c : Cf) : (little c).ok = true := by
  apply cfgOk_iff.2
  simp only [little]
  omega
theorem ref02_Little (c : Cf) (w : World) :
    Calls Tryz.prog 48 #[c.V] w fun e w' => e = .returned (little c).V ∧ Touch nob w w' := by
  obtain ⟨a0, a1, a2, a3, a4, a5, a6⟩ := c
  go_enter Tryz.func48, Tryz.ntmps48
  go_wp2
  refine wp_region_quiet_tail_drew 28 (by kernel_rfl) (by kernel_rfl) ?_
  simp only [List.take_succ_cons, List.take_zero, List.drop_succ_cons, List.drop_zero]
  repeat (go_big_quiet_step (((go_at_call 89; exact Calls.quiet_of_same ((ref02_mod _ _ (by omega) (by omega) _).mono fun _ _ h => ⟨h.1, h.2.symm⟩)))))
  refine wpQuiet_nil ?_; intro _ hw'; obtain ⟨nq, hw''⟩ := hw'; subst hw''
  go_wp2
  refine bodyPost_ret (v := .agg #[.int .i64 (1 + a0 % 4), .int .i64 (16 + a1 % 20), .int .i64 (1 + a2 % 4), .int .i64 (1 + a3 % 5), .int .i64 (a4 % 4), .int .i64 (1 + a5 % 4), .int .i64 (1 + a6 % 4)]) (by simp [results, Tryz.results48, go_sem]) rfl ⟨rfl, ?_⟩
  (repeat (first | with_reducible exact Touch.refl _ _ | with_reducible assumption | with_reducible apply Touch.alloc | with_reducible apply Touch.drewN | with_reducible apply Touch.drew | with_reducible refine Touch.setCell ?_ (.inr (by first | omega | (simp; done) | (simp; omega))) _))
end Go.Proofs.YtnobempbcdkoaaaGreatDoor
namespace Go.Proofs.YtnobempbcdkoaaaGreatDoor
open Go.RowKit

/-- A table that is new. -/
structure OneB (w wr : World) (p q cap n : Nat) (c : Cf) (ks : List Int) : Prop where
  touch : Touch nob w wr
  hp : w.heap.size ≤ p
  hq : w.heap.size ≤ q
  blk : BlkAt wr p q cap n c ks
variable {w wr : World} {p q cap n : Nat} {c : Cf} {ks : List Int}
theorem OneB.step {w' : World} (h : OneB w wr p q cap n c ks) (ht : Touch nob wr w') : OneB w w' p q cap n c ks := ⟨h.touch.trans ht, h.hp, h.hq, h.blk.old ht⟩
theorem oneb_New (c : Cf) (w wr : World) (hT : Touch nob w wr) (hL : Laid w) (hc : c.ok = true) (n : Nat) (hn : (n : Int) = c.c0) :
    Calls Tryz.prog 119 #[c.V] wr fun e w' => ∃ p q, e = .returned (.tuple #[.pointer (some ⟨p, 0, none⟩), .int .i64 0]) ∧ OneB w w' p q n n c [] :=
  (block_New_ok c wr (hL.old hT).lim hc n hn).mono fun _ _ ⟨p, q, h1, h2, h3, h4, h5⟩ => ⟨p, q, h1, hT.trans h2, Nat.le_trans hT.size h3, Nat.le_trans hT.size h4, h5⟩
theorem oneb_Assign (k : Int) (h : OneB w wr p q cap n c ks) (hk : isCls k = true) (hf : ks.length < n) :
    Calls Tryz.prog 172 #[.pointer (some ⟨p, 0, none⟩), .int .i64 k] wr fun e w' => e = .returned (.tuple #[.int .i64 ks.length, .int .i64 0]) ∧ OneB w w' p q cap n c (ks ++ [k]) :=
  (blk_Assign_ok k h.blk hk hf).mono fun _ _ ⟨g1, g2, g3⟩ => ⟨g1, h.touch.step g2 (fun i hi => .inr (by rw [hi]; exact h.hq)), h.hp, h.hq, g3⟩
def awakeC : Cf := ⟨2, 16, 1, 1, 0, 1, 1⟩
end Go.Proofs.YtnobempbcdkoaaaGreatDoor
namespace Go.Proofs.YtnobempbcdkoaaaGreatDoor
open Go.RowKit

variable {w wr : World} {A : LA} {c : Cf} {n : Nat}
/-- A slice of bytes: what it holds. -/
def U8In (w : World) (v : Value) (us : List Int) : Prop :=
  ∃ ao cap, v = .slice ao us.length cap ∧ (us = [] ∨ ∃ b o, ao = some ⟨b, o, none⟩ ∧ us.length ≤ cap ∧ ∀ j, j < us.length → w.cell? ⟨b, o + j, none⟩ = some (.int .u8 (us.getD j 0)))
theorem U8In.old {w w' : World} {v : Value} {us : List Int} (h : U8In w v us) (ht : Touch nob w w') : U8In w' v us := by
  obtain ⟨ao, cap, rfl, h⟩ := h
  refine ⟨ao, cap, rfl, ?_⟩
  rcases h with h | ⟨b, o, rfl, hc, h⟩
  · exact .inl h
  · exact .inr ⟨b, o, rfl, hc, fun j hj => (ht.cell (cell_lt (h j hj)) (fun x => x)).trans (h j hj)⟩
theorem U8In.at {w : World} {v : Value} {us : List Int} (h : U8In w v us) {k : Nat} (hk : k < us.length) : ∃ b o cap, v = .slice (some ⟨b, o, none⟩) us.length cap ∧ us.length ≤ cap ∧ w.cell? ⟨b, o + k, none⟩ = some (.int .u8 (us.getD k 0)) := by
  obtain ⟨ao, cap, rfl, h | ⟨b, o, rfl, hc, h⟩⟩ := h
  · subst h; simp at hk
  · exact ⟨b, o, cap, rfl, hc, h k hk⟩
theorem U8In.shape {w : World} {v : Value} {us : List Int} (h : U8In w v us) : ∃ ao cap, v = .slice ao us.length cap := by
  obtain ⟨ao, cap, rfl, _⟩ := h
  exact ⟨ao, cap, rfl⟩
/-- The classes that are assigned. -/
def asg (us : List Int) (n m : Nat) : List Int := ((us.take m).map (fun x => x % 4)).take n
theorem asg_succ {us : List Int} {n m : Nat} (hm : m < us.length) : asg us n (m + 1) = if (asg us n m).length < n then asg us n m ++ [us.getD m 0 % 4] else asg us n m := by
  unfold asg
  rw [take_snoc'' hm, List.map_append, List.map_cons, List.map_nil]
  have hl : ((us.take m).map (fun x => x % 4)).length = m := by rw [List.length_map, List.length_take]; omega
  by_cases h : m < n
  · have e1 : ((us.take m).map (fun x => x % 4)).take n = (us.take m).map (fun x => x % 4) := List.take_of_length_le (by omega)
    rw [e1, hl, if_pos h, List.take_of_length_le (by rw [List.length_append, hl]; simp; omega)]
  · rw [if_neg (by rw [List.length_take, hl]; omega), List.take_append_of_le_length (by omega)]
theorem asg_le (us : List Int) (n m : Nat) : (asg us n m).length ≤ n := by unfold asg; rw [List.length_take]; exact Nat.min_le_left _ _
/-- While it is made. -/
structure MadeAt (w wr : World) (pa qa ca z pt qt n : Nat) (c : Cf) (ks : List Int) : Prop where
  touch : Touch nob w wr
  ar : ArenaAt wr pa qa ca (List.replicate z 0) 0 0
  tb : BlkAt wr pt qt n n c ks
  ge : ∀ x ∈ [pa, qa, pt, qt], w.heap.size ≤ x
  nd : [pa, qa, pt, qt].Nodup
theorem MadeAt.ge4 {pa qa ca z pt qt : Nat} {ks : List Int} (h : MadeAt w wr pa qa ca z pt qt n c ks) : w.heap.size ≤ pa ∧ w.heap.size ≤ qa ∧ w.heap.size ≤ pt ∧ w.heap.size ≤ qt ∧ pa ≠ qt ∧ qa ≠ qt := by
  have h1 := h.nd
  simp only [List.nodup_cons, List.mem_cons, List.not_mem_nil, not_or, or_false, not_false_eq_true, List.nodup_nil, and_true] at h1
  exact ⟨h.ge _ (by simp), h.ge _ (by simp), h.ge _ (by simp), h.ge _ (by simp), h1.1.2.2, h1.2.1.2⟩
theorem made_Assign {pa qa ca z pt qt : Nat} {ks : List Int} (k : Int) (hk : isCls k = true) (h : MadeAt w wr pa qa ca z pt qt n c ks) :
    Calls Tryz.prog 172 #[.pointer (some ⟨pt, 0, none⟩), .int .i64 k] wr fun e w' => (∃ x y, e = .returned (.tuple #[.int .i64 x, .int .i64 y])) ∧ MadeAt w w' pa qa ca z pt qt n c (if ks.length < n then ks ++ [k] else ks) := by
  obtain ⟨g1, g2, g3, g4, g5, g6⟩ := h.ge4
  by_cases hf : ks.length < n
  · rw [if_pos hf]
    exact (blk_Assign_ok k h.tb hk hf).mono fun _ _ ⟨e1, e2, e3⟩ => ⟨⟨_, _, e1⟩, h.touch.step e2 (fun i hi => .inr (by rw [hi]; exact g4)), h.ar.touch e2 g5 g6, e3, h.ge, h.nd⟩
  · rw [if_neg hf]
    exact (blk_Assign_full k h.tb hk (by have := h.tb.le; omega)).mono fun _ _ ⟨e1, e2⟩ => ⟨⟨_, _, e1⟩, h.touch.trans e2, h.ar.touch e2 (fun x => x) (fun x => x), h.tb.old e2, h.ge, h.nd⟩
end Go.Proofs.YtnobempbcdkoaaaGreatDoor
namespace Go.Proofs.YtnobempbcdkoaaaGreatDoor
open Go.RowKit

/-- Lists, and what is in them. -/
structure LL (W w : World) (A : LA) (c : Cf) (s : LS) (H : Nat → List Nat) : Prop where
  ls : LsAt W w A c s
  inv : LInv c s H
  laid : Laid W
variable {W w wr : World} {A : LA} {c : Cf} {s : LS} {H : Nat → List Nat}
theorem LL.old {w' : World} (h : LL W w A c s H) (ht : Touch nob w w') : LL W w' A c s H := ⟨h.ls.old ht, h.inv, h.laid⟩
theorem LL.base (h : LL W w A c s H) : Touch nob W w := h.ls.base
theorem LL.lay (h : LL W w A c s H) : Laid w := h.laid.old h.ls.base
theorem LL.ok (h : LL W w A c s H) : c.ok = true := by obtain ⟨_, h1⟩ := h.ls.tb; exact h1.ok
theorem LL.slot (h : LL W w A c s H) {a : Int} (ho : ownB c s.ks a = true) : ∃ j k : Nat, a = j + 1 ∧ j < s.ws.length ∧ k < 4 ∧ clsA c s.ks (j + 1) = k ∧ ownB c s.ks (j + 1) = true := by
  obtain ⟨h1, h2⟩ := own_bd ho
  have h3 := h.ls.len
  obtain ⟨j, hj⟩ : ∃ j : Nat, a = j + 1 := ⟨(a - 1).toNat, by omega⟩
  subst hj
  obtain ⟨k, hk, hc⟩ := clsA_nat h.ok ho
  exact ⟨j, k, rfl, by omega, hk, hc, ho⟩
theorem LL.m_le (h : LL W w A c s H) {k : Nat} (hk : k < 4) : s.m k = (H k).length ∧ (H k).length ≤ 1048576 :=
  ⟨h.inv.many k hk, Nat.le_trans (h.inv.len_le hk) h.inv.wle⟩
theorem ll_Put_no (a : Int) (h : LL W w A c s H) (ho : ownB c s.ks a = false) :
    Calls Tryz.prog 132 #[.pointer (some ⟨A.p, 0, none⟩), .int .i64 a] w fun e w' => e = .returned (.int .i64 1) ∧ Touch (LT A) w w' ∧ LL W w' A c s H :=
  (lists_Put_no a h.ls ho h.laid).mono fun _ _ g => ⟨g.1, g.2.mono fun _ _ x => x.elim, h.old g.2⟩
theorem ll_Put_in (j k : Nat) (h : LL W w A c s H) (hj : j < s.ws.length) (ho : ownB c s.ks (j + 1) = true) (hk : k < 4) (hc : clsA c s.ks (j + 1) = k) (hm : j ∈ H k) :
    Calls Tryz.prog 132 #[.pointer (some ⟨A.p, 0, none⟩), .int .i64 (j + 1)] w fun e w' => e = .returned (.int .i64 11) ∧ Touch (LT A) w w' ∧ LL W w' A c s H :=
  (lists_Put_in j k h.ls hj ho hc ((h.inv.of_own hk hj hc).2 hm) h.laid).mono fun _ _ g => ⟨g.1, g.2.mono fun _ _ x => x.elim, h.old g.2⟩
theorem ll_Put_ok (j k : Nat) (h : LL W w A c s H) (hj : j < s.ws.length) (ho : ownB c s.ks (j + 1) = true) (hk : k < 4) (hc : clsA c s.ks (j + 1) = k) (hm : j ∉ H k) :
    Calls Tryz.prog 132 #[.pointer (some ⟨A.p, 0, none⟩), .int .i64 (j + 1)] w fun e w' => e = .returned (.int .i64 0) ∧ Touch (LT A) w w' ∧ LL W w' A c (s.put j k) (updH H k (j :: H k)) := by
  have hM : s.M (j + 1) = false := by
    cases e : s.M (j + 1)
    · rfl
    · exact absurd ((h.inv.of_own hk hj hc).1 e) hm
  obtain ⟨m1, m2⟩ := h.m_le hk
  exact (lists_Put_ok j k h.ls hj ho hk hc hM (by omega) h.laid).mono fun _ _ g => ⟨g.1, g.2.1, g.2.2, h.inv.put hk hj ho hc hM, h.laid⟩
theorem ll_Take_ok (j k : Nat) (L : List Nat) (h : LL W w A c s H) (hk : k < 4) (hL : H k = j :: L) :
    Calls Tryz.prog 171 #[.pointer (some ⟨A.p, 0, none⟩), .int .i64 k] w fun e w' => e = .returned (.tuple #[.int .i64 (j + 1), .int .i64 0]) ∧ Touch (LT A) w w' ∧ LL W w' A c (s.tak j k) (updH H k L) := by
  have hT := h.inv.thr k hk
  rw [hL] at hT
  obtain ⟨m1, m2⟩ := h.m_le hk
  have hm : j ∈ H k := by rw [hL]; exact List.mem_cons_self ..
  have hl : (H k).length = L.length + 1 := by rw [hL]; rfl
  exact (lists_Take_ok j k h.ls hT.2.1 hT.1 hk ((h.inv.of_own hk hT.2.1 (h.inv.cls k hk j hm).2).2 hm) (by omega) h.laid).mono fun _ _ g => ⟨g.1, g.2.1, g.2.2, h.inv.tak hk hL, h.laid⟩
theorem ll_Take_none (k : Nat) (h : LL W w A c s H) (hk : k < 4) (hL : H k = []) :
    Calls Tryz.prog 171 #[.pointer (some ⟨A.p, 0, none⟩), .int .i64 k] w fun e w' => e = .returned (.tuple #[.int .i64 0, .int .i64 12]) ∧ w = w' := by
  have hT := h.inv.thr k hk
  rw [hL] at hT
  exact lists_Take_none k h.ls hk hT
theorem ll_Load (j : Nat) (h : LL W w A c s H) (hj : j < s.ws.length) :
    Calls Tryz.prog 60 #[.pointer (some ⟨A.pa, 0, none⟩), .int .i64 (j + 1)] w fun e w' => e = .returned (.tuple #[.int .u64 (s.ws.getD j 0), .int .i64 0]) ∧ Touch (LT A) w w' ∧ LL W w' A c s H := by
  obtain ⟨ca, lo, st, ha⟩ := h.ls.ar
  exact (arena_Load_ok _ _ ca _ lo st j w ha hj).mono fun _ _ g => ⟨g.1, g.2.1.mono fun _ _ e => .inr (.inl e), h.ls.loaded g.2.1 g.2.2, h.inv, h.laid⟩
theorem ll_Next (j : Nat) (h : LL W w A c s H) (hj : j < s.ws.length) :
    Calls Tryz.prog 185 #[.int .u64 (s.ws.getD j 0)] w fun e w' => e = .returned (.tuple #[.int .i64 (nxtW (s.ws.getD j 0)), .bool (isLinkW (s.ws.getD j 0))]) ∧ w = w' :=
  header_NextV _ (h.ls.wok j hj).1 (h.ls.wok j hj).2 w h.lay.siz
theorem LL.has_nat (_ : LL W w A c s H) {j : Nat} (hj : j < s.ws.length) : hasB s.M (s.ws.length + 1) (j + 1) = s.M (j + 1) := by
  unfold hasB mayB
  rw [decide_eq_true (show (0 : Int) ≤ (j : Int) + 1 by omega), decide_eq_true (show (j : Int) + 1 < ((s.ws.length + 1 : Nat) : Int) by omega), show ((j : Int) + 1).toNat = j + 1 by omega]
  rfl
theorem LL.has_no (h : LL W w A c s H) {a : Int} (ho : ownB c s.ks a = false) : hasB s.M (s.ws.length + 1) a = false := by
  cases e : hasB s.M (s.ws.length + 1) a
  · rfl
  · unfold hasB at e
    rw [Bool.and_eq_true] at e
    obtain ⟨x, rfl, hx⟩ := may_nat e.1
    have e2 : s.M x = true := e.2
    cases x with
    | zero => rw [h.inv.zero] at e2; cases e2
    | succ j =>
      obtain ⟨k, hk, hm⟩ := (h.inv.mem j (by omega)).1 e2
      have := (h.inv.cls k hk j hm).1
      rw [show ((j + 1 : Nat) : Int) = (j : Int) + 1 by omega] at ho
      rw [ho] at this
      cases this
theorem Thr.nth {ws : List Int} : ∀ {a : Int} {L : List Nat} {i : Nat}, Thr ws a L → i < L.length → L.getD i 0 < ws.length ∧ isLinkW (ws.getD (L.getD i 0) 0) = true ∧ nxtW (ws.getD (L.getD i 0) 0) = if i + 1 < L.length then ((L.getD (i + 1) 0 : Nat) : Int) + 1 else 0
  | _, [], _, _, hi => by simp at hi
  | _, j :: L, 0, h, _ => by
    obtain ⟨h1, h2, h3, h4⟩ := h
    refine ⟨h2, h3, ?_⟩
    cases L with
    | nil => exact h4
    | cons x L => rw [if_pos (by simp)]; exact h4.1
  | _, j :: L, i + 1, h, hi => by
    have := Thr.nth (i := i) h.2.2.2 (by simpa using hi)
    simpa using this
def awakeC8 : Cf := ⟨1, 16, 1, 1, 0, 1, 1⟩
end Go.Proofs.YtnobempbcdkoaaaGreatDoor
