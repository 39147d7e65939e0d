/- The heap's memory: where it lies, what it holds. Conditions: none. Slots apart from each other: plain laws. Conditions: none. What a heap's memory means: slots, objects: plain laws. Conditions: none. What stays of a heap while other objects are made: plain laws. Conditions: none. The heap's small functions, walked. Conditions: the tables of limits and of sizes read as laid, where said. The heap's cells, walked. Conditions: none. -/
import Derived.Test.YtnobempbcdkoaaaGreatDoorLL
namespace Go.Proofs.YtnobempbcdkoaaaGreatDoor
open Go.RowKit

/-- Where a heap lies. -/
structure HA where
  h : Nat
  pb : Nat
  qb : Nat
  pc : Nat
  qc : Nat
  qx : Nat
  L : LA
/-- What it holds: what the lists hold, which addresses are objects, their colors, the cells. -/
structure HS where
  s : LS
  B : Nat → Bool
  K : Nat → Bool
  x : List Int
def HA.all (A : HA) : List Nat := A.h :: A.pb :: A.qb :: A.pc :: A.qc :: A.qx :: A.L.all
/-- What calls of a heap may turn. -/
def HT (A : HA) : Nat → Prop := fun b => b ∈ A.all
structure HpAt (W w : World) (A : HA) (c : Cf) (S : HS) : Prop where
  ls : LsAt W w A.L c S.s
  box : ∃ cx, w.heap[A.h]? = some (.cells #[.pointer (some ⟨A.L.pa, 0, none⟩), .pointer (some ⟨A.L.pt, 0, none⟩), .pointer (some ⟨A.L.p, 0, none⟩), .pointer (some ⟨A.pb, 0, none⟩), .pointer (some ⟨A.pc, 0, none⟩), .slice (some ⟨A.qx, 0, none⟩) S.x.length cx] 109) ∧ RowAt w A.qx 3 cx (S.x.map (.int .i64))
  bo : ∃ cb wb, SetAt w A.pb A.qb cb wb (S.s.ws.length + 1) S.B
  co : ∃ cc wc, SetAt w A.pc A.qc cc wc (S.s.ws.length + 1) S.K
  hi : ∀ b ∈ A.all, W.heap.size ≤ b
  ap : A.all.Nodup
variable {W w w' : World} {A : HA} {c : Cf} {S : HS}
theorem Touch.hnob {T : Nat → Prop} (h : Touch nob w w') : Touch T w w' := h.mono (fun _ _ x => x.elim)
theorem nodup_ne {l : List Nat} (h : l.Nodup) {i j : Nat} (hi : i < l.length) (hj : j < l.length) (hij : i ≠ j) : l.getD i 0 ≠ l.getD j 0 := by
  rw [List.getD_eq_getElem?_getD, List.getD_eq_getElem?_getD, List.getElem?_eq_getElem hi, List.getElem?_eq_getElem hj]
  have hp := List.pairwise_iff_getElem.1 h
  rcases Nat.lt_or_gt_of_ne hij with hl | hl
  · exact hp i j hi hj hl
  · exact (hp j i hj hi hl).symm
theorem HpAt.ne (h : HpAt W w A c S) (i j : Nat) (hi : i < 13 := by decide) (hj : j < 13 := by decide) (hij : i ≠ j := by decide) : A.all.getD i 0 ≠ A.all.getD j 0 := nodup_ne h.ap hi hj hij
theorem HpAt.base (h : HpAt W w A c S) : Touch nob W w := h.ls.base
theorem HpAt.base_HT (h : HpAt W w A c S) (ht : Touch (HT A) w w') : Touch nob W w' := h.base.step ht (fun i hi => .inr (h.hi i hi))
theorem all_at {A : HA} (i : Nat) (hi : i < 13 := by decide) : A.all.getD i 0 ∈ A.all := by
  have hl : i < A.all.length := hi
  rw [List.getD_eq_getElem?_getD, List.getElem?_eq_getElem hl]
  exact List.getElem_mem hl
theorem LT_mem {A : LA} {b : Nat} (h : LT A b) : b ∈ A.all := by
  unfold LT at h
  unfold LA.all
  simp only [List.mem_cons, List.not_mem_nil, or_false]
  omega
theorem LT_HT {b : Nat} (h : LT A.L b) : HT A b := by
  have h1 := LT_mem h
  unfold HT HA.all
  exact List.mem_cons_of_mem _ (List.mem_cons_of_mem _ (List.mem_cons_of_mem _ (List.mem_cons_of_mem _ (List.mem_cons_of_mem _ (List.mem_cons_of_mem _ h1)))))
theorem HpAt.lt (h : HpAt W w A c S) : ∀ b ∈ A.all, b < w.heap.size := by
  obtain ⟨_, h1, h2⟩ := h.box
  obtain ⟨_, _, h3⟩ := h.bo
  obtain ⟨_, _, h4⟩ := h.co
  have h5 := h.ls.lt
  intro b hb
  unfold HA.all LA.all at hb
  simp only [List.mem_cons, List.not_mem_nil, or_false] at hb
  have := blk_lt h1
  have := h2.lt
  have := blk_lt h3.box
  have := h3.row.lt
  have := blk_lt h4.box
  have := h4.row.lt
  omega
/-- What isn't turned stays. -/
theorem HpAt.touch {T : Nat → Prop} (h : HpAt W w A c S) (hb : Touch nob W w') (ht : Touch T w w') (hn : ∀ b ∈ A.all, ¬ T b) : HpAt W w' A c S := by
  have n : ∀ i, i < 13 → ¬ T (A.all.getD i 0) := fun i hi => hn _ (all_at i hi)
  obtain ⟨cx, h1, h2⟩ := h.box
  obtain ⟨cb, wb, h3⟩ := h.bo
  obtain ⟨cc, wc, h4⟩ := h.co
  exact ⟨h.ls.touch hb ht (n 6 (by decide)) (n 7 (by decide)) (n 8 (by decide)) (n 9 (by decide)) (n 10 (by decide)) (n 11 (by decide)) (n 12 (by decide)), ⟨cx, blk_touch h1 ht (n 0 (by decide)), h2.touch ht (n 5 (by decide))⟩, ⟨cb, wb, h3.touch ht (n 1 (by decide)) (n 2 (by decide))⟩, ⟨cc, wc, h4.touch ht (n 3 (by decide)) (n 4 (by decide))⟩, h.hi, h.ap⟩
theorem HpAt.old (h : HpAt W w A c S) (ht : Touch nob w w') : HpAt W w' A c S := h.touch (h.base.trans ht) ht (fun _ _ x => x)
/-- Only what the lists hold is turned. -/
theorem HpAt.lists {T : Nat → Prop} {s' : LS} (h : HpAt W w A c S) (ht : Touch T w w') (hn : ∀ i, i < 6 → ¬ T (A.all.getD i 0)) (hl : LsAt W w' A.L c s') (hw : s'.ws.length = S.s.ws.length) : HpAt W w' A c { S with s := s' } := by
  obtain ⟨cx, h1, h2⟩ := h.box
  obtain ⟨cb, wb, h3⟩ := h.bo
  obtain ⟨cc, wc, h4⟩ := h.co
  refine ⟨hl, ⟨cx, blk_touch h1 ht (hn 0 (by decide)), h2.touch ht (hn 5 (by decide))⟩, ⟨cb, wb, ?_⟩, ⟨cc, wc, ?_⟩, h.hi, h.ap⟩
  · show SetAt _ _ _ _ _ (s'.ws.length + 1) _
    rw [hw]
    exact h3.touch ht (hn 1 (by decide)) (hn 2 (by decide))
  · show SetAt _ _ _ _ _ (s'.ws.length + 1) _
    rw [hw]
    exact h4.touch ht (hn 3 (by decide)) (hn 4 (by decide))
theorem HpAt.nLT (h : HpAt W w A c S) (i : Nat) (hi : i < 6) : ¬ LT A.L (A.all.getD i 0) := by
  rintro (e | e | e | e)
  · exact h.ne i 6 (by omega) (by omega) (by omega) e
  · exact h.ne i 7 (by omega) (by omega) (by omega) e
  · exact h.ne i 8 (by omega) (by omega) (by omega) e
  · exact h.ne i 12 (by omega) (by omega) (by omega) e
theorem HpAt.listsL {s' : LS} (h : HpAt W w A c S) (ht : Touch (LT A.L) w w') (hl : LsAt W w' A.L c s') (hw : s'.ws.length = S.s.ws.length) : HpAt W w' A c { S with s := s' } := h.lists ht h.nLT hl hw
theorem HpAt.lsT (h : HpAt W w A c S) (i : Nat) (hi : i < 6) (ht : Touch (fun b => b = A.all.getD i 0) w w') : LsAt W w' A.L c S.s :=
  h.ls.touch (h.base_HT (ht.mono fun b _ e => by rw [e]; exact all_at i (by omega))) ht (h.ne 6 i (by decide) (by omega) (by omega)) (h.ne 7 i (by decide) (by omega) (by omega)) (h.ne 8 i (by decide) (by omega) (by omega)) (h.ne 9 i (by decide) (by omega) (by omega)) (h.ne 10 i (by decide) (by omega) (by omega)) (h.ne 11 i (by decide) (by omega) (by omega)) (h.ne 12 i (by decide) (by omega) (by omega))
/-- Only the set of objects is turned. -/
theorem HpAt.born {cb : Nat} {wb : List Nat} {B' : Nat → Bool} (h : HpAt W w A c S) (ht : Touch (fun b => b = A.qb) w w') (hs : SetAt w' A.pb A.qb cb wb (S.s.ws.length + 1) B') : HpAt W w' A c { S with B := B' } := by
  obtain ⟨cx, h1, h2⟩ := h.box
  obtain ⟨cc, wc, h4⟩ := h.co
  exact ⟨h.lsT 2 (by decide) ht, ⟨cx, blk_touch h1 ht (h.ne 0 2), h2.touch ht (h.ne 5 2)⟩, ⟨cb, wb, hs⟩, ⟨cc, wc, h4.touch ht (h.ne 3 2) (h.ne 4 2)⟩, h.hi, h.ap⟩
/-- Only the colors are turned. -/
theorem HpAt.tint {cc : Nat} {wc : List Nat} {K' : Nat → Bool} (h : HpAt W w A c S) (ht : Touch (fun b => b = A.qc) w w') (hs : SetAt w' A.pc A.qc cc wc (S.s.ws.length + 1) K') : HpAt W w' A c { S with K := K' } := by
  obtain ⟨cx, h1, h2⟩ := h.box
  obtain ⟨cb, wb, h3⟩ := h.bo
  exact ⟨h.lsT 4 (by decide) ht, ⟨cx, blk_touch h1 ht (h.ne 0 4), h2.touch ht (h.ne 5 4)⟩, ⟨cb, wb, h3.touch ht (h.ne 1 4) (h.ne 2 4)⟩, ⟨cc, wc, hs⟩, h.hi, h.ap⟩
/-- Only a cell is turned. -/
theorem HpAt.cell (h : HpAt W w A c S) (i : Nat) (v : Int) : HpAt W (w.setCell ⟨A.qx, i, none⟩ (.int .i64 v)) A c { S with x := S.x.set i v } := by
  obtain ⟨cx, h1, h2⟩ := h.box
  obtain ⟨cb, wb, h3⟩ := h.bo
  obtain ⟨cc, wc, h4⟩ := h.co
  have ht : Touch (fun b => b = A.qx) w (w.setCell ⟨A.qx, i, none⟩ (.int .i64 v)) := Touch.setCell (S := fun b => b = A.qx) (Touch.refl _ _) (.inl rfl) _
  refine ⟨h.lsT 5 (by decide) ht, ⟨cx, ?_, ?_⟩, ⟨cb, wb, h3.touch ht (h.ne 1 5) (h.ne 2 5)⟩, ⟨cc, wc, h4.touch ht (h.ne 3 5) (h.ne 4 5)⟩, h.hi, h.ap⟩
  · rw [List.length_set]
    exact blk_touch h1 ht (h.ne 0 5)
  · rw [List.map_set]
    exact h2.set _ _
theorem HpAt.cells (h : HpAt W w A c S) : ∃ cx, w.cell? ⟨A.h, 0, none⟩ = some (.pointer (some ⟨A.L.pa, 0, none⟩)) ∧ w.cell? ⟨A.h, 1, none⟩ = some (.pointer (some ⟨A.L.pt, 0, none⟩)) ∧ w.cell? ⟨A.h, 2, none⟩ = some (.pointer (some ⟨A.L.p, 0, none⟩)) ∧ w.cell? ⟨A.h, 3, none⟩ = some (.pointer (some ⟨A.pb, 0, none⟩)) ∧ w.cell? ⟨A.h, 4, none⟩ = some (.pointer (some ⟨A.pc, 0, none⟩)) ∧ w.cell? ⟨A.h, 5, none⟩ = some (.slice (some ⟨A.qx, 0, none⟩) S.x.length cx) ∧ S.x.length ≤ cx := by
  obtain ⟨cx, h1, h2⟩ := h.box
  obtain ⟨_, _, _, h3, _⟩ := id h2
  exact ⟨cx, by simp [World.cell?, h1], by simp [World.cell?, h1], by simp [World.cell?, h1], by simp [World.cell?, h1], by simp [World.cell?, h1], by simp [World.cell?, h1], by simpa using h3⟩
/-- How an address stands. -/
def HS.own (S : HS) (c : Cf) (a : Int) : Bool := ownB c S.s.ks a
def HS.obj (S : HS) (a : Int) : Bool := hasB S.B (S.s.ws.length + 1) a
def HS.fre (S : HS) (a : Int) : Bool := hasB S.s.M (S.s.ws.length + 1) a
def HS.hand (S : HS) (c : Cf) (a : Int) : Bool := S.own c a && (!S.obj a && !S.fre a)
/-- The word at an address; beyond, 0. -/
def HS.word (S : HS) (a : Int) : Int := if 1 ≤ a ∧ a ≤ S.s.ws.length then S.s.ws.getD (a - 1).toNat 0 else 0
def HS.begun (S : HS) (a : Int) : Bool := isObjW (S.word a)
/-- How many fields a word tells. -/
def fldW (x : Int) : Int := match isObjW x with | true => x % 256 | false => 0
def HS.flds (S : HS) (a : Int) : Int := fldW (S.word a)
theorem HpAt.set_born (a : Int) (h : HpAt W w A c S) :
    Calls Tryz.prog 55 #[.pointer (some ⟨A.pb, 0, none⟩), .int .i64 a] w fun e w' => e = .returned (.bool (S.obj a)) ∧ w = w' := by
  obtain ⟨_, _, h1⟩ := h.bo
  exact set_Has a h1
theorem HpAt.set_color (a : Int) (h : HpAt W w A c S) :
    Calls Tryz.prog 55 #[.pointer (some ⟨A.pc, 0, none⟩), .int .i64 a] w fun e w' => e = .returned (.bool (hasB S.K (S.s.ws.length + 1) a)) ∧ w = w' := by
  obtain ⟨_, _, h1⟩ := h.co
  exact set_Has a h1
theorem HpAt.put_born (a : Int) (b : Bool) (h : HpAt W w A c S) :
    Calls Tryz.prog 99 #[.pointer (some ⟨A.pb, 0, none⟩), .int .i64 a, .bool b] w fun e w' => e = .returned (.bool (putB S.B (S.s.ws.length + 1) a b)) ∧ Touch (HT A) w w' ∧ HpAt W w' A c { S with B := putM S.B (S.s.ws.length + 1) a b } := by
  obtain ⟨_, _, h1⟩ := h.bo
  exact (set_Put a b h1).mono fun _ _ ⟨_, g1, g2, g3⟩ => ⟨g1, g2.mono fun _ _ e => by rw [e]; exact all_at (A := A) 2, h.born g2 g3⟩
theorem HpAt.put_color (a : Int) (b : Bool) (h : HpAt W w A c S) :
    Calls Tryz.prog 99 #[.pointer (some ⟨A.pc, 0, none⟩), .int .i64 a, .bool b] w fun e w' => e = .returned (.bool (putB S.K (S.s.ws.length + 1) a b)) ∧ Touch (HT A) w w' ∧ HpAt W w' A c { S with K := putM S.K (S.s.ws.length + 1) a b } := by
  obtain ⟨_, _, h1⟩ := h.co
  exact (set_Put a b h1).mono fun _ _ ⟨_, g1, g2, g3⟩ => ⟨g1, g2.mono fun _ _ e => by rw [e]; exact all_at (A := A) 4, h.tint g2 g3⟩
theorem HpAt.lists_has (a : Int) (h : HpAt W w A c S) :
    Calls Tryz.prog 144 #[.pointer (some ⟨A.L.p, 0, none⟩), .int .i64 a] w fun e w' => e = .returned (.bool (S.fre a)) ∧ w = w' := lists_Has a h.ls
theorem HpAt.owner (a : Int) (h : HpAt W w A c S) (hL : Laid W) :
    Calls Tryz.prog 143 #[.pointer (some ⟨A.L.pt, 0, none⟩), .int .i64 a] w fun e w' => e = .returned (owV c S.s.ks a (S.own c a)) ∧ Touch nob w w' := by
  obtain ⟨_, hb⟩ := h.ls.tb
  exact blk_Owner a hb (hL.old h.base).lim (hL.old h.base).siz
theorem HpAt.load (a : Int) (h : HpAt W w A c S) :
    Calls Tryz.prog 60 #[.pointer (some ⟨A.L.pa, 0, none⟩), .int .i64 a] w fun e w' => e = .returned (.tuple #[.int .u64 (S.word a), .int .i64 (atE S.s.ws.length a)]) ∧ Touch (HT A) w w' ∧ HpAt W w' A c S := by
  obtain ⟨ca, lo, st, ha⟩ := h.ls.ar
  by_cases hr : 1 ≤ a ∧ a ≤ S.s.ws.length
  · obtain ⟨j, hj⟩ : ∃ j : Nat, a = j + 1 := ⟨(a - 1).toNat, by omega⟩
    subst hj
    have hw : S.word ((j : Int) + 1) = S.s.ws.getD j 0 := by
      unfold HS.word
      rw [if_pos hr, show ((j : Int) + 1 - 1).toNat = j by omega]
    rw [hw, atE_ok hr.1 hr.2]
    refine (arena_Load_ok _ _ ca _ lo st j w ha (by omega)).mono fun _ _ g => ⟨g.1, g.2.1.mono fun _ _ e => by rw [e]; exact all_at (A := A) 7, ?_⟩
    exact h.listsL (g.2.1.mono fun _ _ e => .inr (.inl e)) (h.ls.loaded g.2.1 g.2.2) rfl
  · have hw : S.word a = 0 := by unfold HS.word; rw [if_neg hr]
    rw [hw]
    exact (arena_Load_no _ _ ca _ lo st a w ha (by omega)).mono fun _ _ g => ⟨g.1, g.2.mono fun _ _ x => x.elim, h.old g.2⟩
theorem HpAt.store (j : Nat) (x : Int) (h : HpAt W w A c S) (hj : j < S.s.ws.length) (hx : 0 ≤ x ∧ x < 18446744073709551616) :
    Calls Tryz.prog 93 #[.pointer (some ⟨A.L.pa, 0, none⟩), .int .i64 (j + 1), .int .u64 x] w fun e w' => e = .returned (.int .i64 0) ∧ Touch (HT A) w w' ∧ HpAt W w' A c { S with s := { S.s with ws := S.s.ws.set j x } } :=
  (arena_StoreV j x h.ls hj hx).mono fun _ _ g => ⟨g.1, g.2.1.mono fun _ _ e => LT_HT (e.elim (fun e => .inr (.inl e)) (fun e => .inr (.inr (.inl e)))), h.listsL (g.2.1.mono fun _ _ e => e.elim (fun e => .inr (.inl e)) (fun e => .inr (.inr (.inl e)))) g.2.2 (List.length_set)⟩
end Go.Proofs.YtnobempbcdkoaaaGreatDoor
namespace Go.Proofs.YtnobempbcdkoaaaGreatDoor
open Go.RowKit

variable {c : Cf} {ks : List Int}
/-- Where a slot lies: block b, slot i, class k. -/
structure SlotAt (c : Cf) (ks : List Int) (a : Int) (b i : Nat) (k : Int) : Prop where
  hb : b < ks.length
  hbc : (b : Int) < c.c0
  hk : isCls k = true
  kb : ks.getD b 0 = k
  i1 : ((i : Int) + 1) * clsSize k ≤ c.c1
  ha : a = 1 + (b : Int) * c.c1 + (i : Int) * clsSize k
  hq : (a - 1) / c.c1 = b
  hcl : clsA c ks a = k
theorem slot_shape {a : Int} (hc : c.ok = true) (h : ownB c ks a = true) : ∃ b i k, SlotAt c ks a b i k := by
  obtain ⟨b, h1, h2, h3, h4, h5⟩ := mem_of_own hc h
  rw [sl_eq hc h4 (by omega) h3] at h5
  obtain ⟨i, hi, rfl⟩ := List.mem_map.1 h5
  have hi := List.mem_range.1 hi
  obtain ⟨_, ⟨u1, v1⟩, _⟩ := cfgOk_iff.1 hc
  obtain ⟨p0, p1, p2, p3⟩ := per_facts c.c1 (ks.getD b 0) h4 u1 v1
  have z0 := clsSize_lo h4
  refine ⟨b, i, ks.getD b 0, h2, h3, h4, rfl, ?_, by unfold plA; omega, h1, ?_⟩
  · have h6 : ((i : Int) + 1) * clsSize (ks.getD b 0) ≤ perBlock c.c1 (ks.getD b 0) * clsSize (ks.getD b 0) := Int.mul_le_mul_of_nonneg_right (by omega) (by omega)
    omega
  · unfold clsA
    rw [h1]
    rfl
theorem slot_own {a : Int} {b i : Nat} {k : Int} (hc : c.ok = true) (h : SlotAt c ks a b i k) : ownB c ks a = true := by
  obtain ⟨_, ⟨u1, v1⟩, _⟩ := cfgOk_iff.1 hc
  have z0 := clsSize_lo h.hk
  obtain ⟨p0, p1, p2, p3⟩ := per_facts c.c1 k h.hk u1 v1
  refine (own_of_mem hc h.hb (by rw [h.kb]; exact h.hk) h.hbc ?_).1
  rw [h.kb, sl_eq hc h.hk (by omega) h.hbc]
  refine List.mem_map.2 ⟨i, List.mem_range.2 ?_, ?_⟩
  · have h1 : ((i : Int) + 1) * clsSize k < (perBlock c.c1 k + 1) * clsSize k := Int.lt_of_le_of_lt h.i1 p3
    have h2 := Int.lt_of_mul_lt_mul_right h1 (by omega)
    omega
  · rw [h.ha]
    unfold plA
    omega
theorem SlotAt.top {a : Int} {b i : Nat} {k : Int} (h : SlotAt c ks a b i k) (u1 : 0 ≤ c.c1) : 1 ≤ a ∧ a + clsSize k - 1 ≤ c.c0 * c.c1 := by
  have h1 : ((b : Int) + 1) * c.c1 ≤ c.c0 * c.c1 := Int.mul_le_mul_of_nonneg_right (by have := h.hbc; omega) u1
  have h2 := h.i1
  have h3 := h.ha
  have z0 := clsSize_lo h.hk
  have h4 : 0 ≤ (b : Int) * c.c1 := Int.mul_nonneg (by omega) u1
  have h5 : 0 ≤ (i : Int) * clsSize k := Int.mul_nonneg (by omega) (by omega)
  rw [Int.add_mul] at h1 h2
  omega
/-- Two slots share no word. -/
theorem SlotAt.apart {a a' : Int} {b i b' i' : Nat} {k k' : Int} (h : SlotAt c ks a b i k) (g : SlotAt c ks a' b' i' k') (u1 : 0 ≤ c.c1) (hne : a ≠ a') : a + clsSize k ≤ a' ∨ a' + clsSize k' ≤ a := by
  have z0 := clsSize_lo h.hk
  have z1 := clsSize_lo g.hk
  have h1 := h.i1
  have g1 := g.i1
  have h2 := h.ha
  have g2 := g.ha
  have h5 : 0 ≤ (i : Int) * clsSize k := Int.mul_nonneg (by omega) (by omega)
  have g5 : 0 ≤ (i' : Int) * clsSize k' := Int.mul_nonneg (by omega) (by omega)
  rw [Int.add_mul] at h1 g1
  rcases Nat.lt_trichotomy b b' with hb | hb | hb
  · left
    have h3 : ((b : Int) + 1) * c.c1 ≤ (b' : Int) * c.c1 := Int.mul_le_mul_of_nonneg_right (by omega) u1
    rw [Int.add_mul] at h3
    omega
  · subst hb
    have e : k = k' := by rw [← h.kb, g.kb]
    subst e
    rcases Nat.lt_trichotomy i i' with hi | hi | hi
    · left
      have h3 : ((i : Int) + 1) * clsSize k ≤ (i' : Int) * clsSize k := Int.mul_le_mul_of_nonneg_right (by omega) (by omega)
      rw [Int.add_mul] at h3
      omega
    · subst hi
      exact absurd (h2.trans g2.symm) hne
    · right
      have h3 : ((i' : Int) + 1) * clsSize k ≤ (i : Int) * clsSize k := Int.mul_le_mul_of_nonneg_right (by omega) (by omega)
      rw [Int.add_mul] at h3
      omega
  · right
    have h3 : ((b' : Int) + 1) * c.c1 ≤ (b : Int) * c.c1 := Int.mul_le_mul_of_nonneg_right (by omega) u1
    rw [Int.add_mul] at h3
    omega
/-- More blocks take nothing from those that are there. -/
theorem SlotAt.more {a : Int} {b i : Nat} {k k2 : Int} (h : SlotAt c ks a b i k) : SlotAt c (ks ++ [k2]) a b i k := by
  have e : (ks ++ [k2]).getD b 0 = ks.getD b 0 := getD_append_left h.hb
  refine ⟨by rw [List.length_append]; have := h.hb; omega, h.hbc, h.hk, by rw [e]; exact h.kb, h.i1, h.ha, h.hq, ?_⟩
  unfold clsA
  rw [h.hq]
  show (ks ++ [k2]).getD b 0 = k
  rw [e]
  exact h.kb
theorem own_more {a : Int} {k2 : Int} (hc : c.ok = true) (h : ownB c ks a = true) : ownB c (ks ++ [k2]) a = true ∧ clsA c (ks ++ [k2]) a = clsA c ks a := by
  obtain ⟨b, i, k, g⟩ := slot_shape hc h
  exact ⟨slot_own hc g.more, by rw [g.more.hcl, g.hcl]⟩
end Go.Proofs.YtnobempbcdkoaaaGreatDoor
namespace Go.Proofs.YtnobempbcdkoaaaGreatDoor
open Go.RowKit

variable {c : Cf} {S : HS} {H : Nat → List Nat}
/-- What always holds of a heap. -/
structure HInv (c : Cf) (S : HS) (H : Nat → List Nat) : Prop where
  li : LInv c S.s H
  ob : ∀ x, S.B x = true → ∃ j : Nat, x = j + 1 ∧ j < S.s.ws.length ∧ ownB c S.s.ks (j + 1) = true ∧ S.s.M (j + 1) = false ∧ isObjW (S.s.ws.getD j 0) = true
  hw : ∀ j : Nat, ownB c S.s.ks (j + 1) = true → isObjW (S.s.ws.getD j 0) = true → S.s.ws.getD j 0 / 256 % 256 = clsA c S.s.ks (j + 1)
  zr : ∀ j : Nat, j < S.s.ws.length → (S.s.ks.length : Int) ≤ (j : Int) / c.c1 → S.s.ws.getD j 0 = 0
  ok : c.ok = true
  len : (S.s.ws.length : Int) = c.c0 * c.c1
/-- The words of a slot. -/
def InSlot (c : Cf) (ks : List Int) (j i : Nat) : Prop := j ≤ i ∧ (i : Int) < j + clsSize (clsA c ks (j + 1))
theorem c1_bd (hc : c.ok = true) : 16 ≤ c.c1 ∧ c.c1 ≤ 256 := (cfgOk_iff.1 hc).2.1
theorem in_first {ks : List Int} {j : Nat} (hc : c.ok = true) (ho : ownB c ks (j + 1) = true) : InSlot c ks j j := by
  obtain ⟨b, i, k, h⟩ := slot_shape hc ho
  have := clsSize_lo h.hk
  refine ⟨Nat.le_refl _, ?_⟩
  rw [h.hcl]
  omega
theorem in_one {ks : List Int} {j j' i : Nat} (hc : c.ok = true) (ho : ownB c ks (j + 1) = true) (ho' : ownB c ks (j' + 1) = true) (h : InSlot c ks j i) (h' : InSlot c ks j' i) : j = j' := by
  obtain ⟨b, x, k, g⟩ := slot_shape hc ho
  obtain ⟨b', x', k', g'⟩ := slot_shape hc ho'
  by_cases e : j = j'
  · exact e
  · have := g.apart g' (by have := (c1_bd hc).1; omega) (by omega)
    unfold InSlot at h h'
    rw [g.hcl] at h
    rw [g'.hcl] at h'
    omega
theorem in_lt {ks : List Int} {j i n : Nat} (hc : c.ok = true) (hn : (n : Int) = c.c0 * c.c1) (ho : ownB c ks (j + 1) = true) (h : InSlot c ks j i) : i < n := by
  obtain ⟨b, x, k, g⟩ := slot_shape hc ho
  have h1 := g.top (by have := (c1_bd hc).1; omega)
  unfold InSlot at h
  rw [g.hcl] at h
  omega
theorem in_blk {ks : List Int} {j i : Nat} (hc : c.ok = true) (ho : ownB c ks (j + 1) = true) (h : InSlot c ks j i) : (i : Int) / c.c1 < ks.length := by
  obtain ⟨b, x, k, g⟩ := slot_shape hc ho
  have u := (c1_bd hc).1
  unfold InSlot at h
  rw [g.hcl] at h
  have h1 := g.i1
  have h2 := g.ha
  have h3 := g.hb
  rw [Int.add_mul] at h1
  refine Int.ediv_lt_of_lt_mul (by omega) ?_
  have h4 : ((b : Int) + 1) * c.c1 ≤ (ks.length : Int) * c.c1 := Int.mul_le_mul_of_nonneg_right (by omega) (by omega)
  rw [Int.add_mul] at h4
  omega
theorem HInv.one (h : HInv c S H) {j : Nat} (ho : ownB c S.s.ks (j + 1) = true) : j < S.s.ws.length := in_lt h.ok h.len ho (in_first h.ok ho)
/-- Behind a store of a word. -/
def HS.setw (S : HS) (i : Nat) (x : Int) : HS := { S with s := { S.s with ws := S.s.ws.set i x } }
theorem getD_set_ne {l : List Int} {i j : Nat} {x : Int} (h : i ≠ j) : (l.set i x).getD j 0 = l.getD j 0 := by rw [getD_setJ, if_neg (fun e => h e.1)]
theorem getD_set_eq {l : List Int} {i : Nat} {x : Int} (h : i < l.length) : (l.set i x).getD i 0 = x := by rw [getD_setJ, if_pos ⟨rfl, h⟩]
theorem LInv.setw {s : LS} (h : LInv c s H) {i : Nat} {x : Int} (hi : ∀ k, k < 4 → i ∉ H k) : LInv c { s with ws := s.ws.set i x } H :=
  ⟨fun k hk => (h.thr k hk).set (hi k hk), h.cls, h.nd, fun j hj => h.mem j (by simpa using hj), h.zero, h.many, by show (s.ws.set i x).length ≤ _; rw [List.length_set]; exact h.wle⟩
theorem HInv.own_of (h : HInv c S H) {k j : Nat} (hk : k < 4) (hj : j ∈ H k) : ownB c S.s.ks (j + 1) = true := (h.li.cls k hk j hj).1
/-- A store into a slot, behind its first word. -/
theorem HInv.field (h : HInv c S H) {j i : Nat} {x : Int} (ho : ownB c S.s.ks (j + 1) = true) (hi : InSlot c S.s.ks j i) (hne : i ≠ j) : HInv c (S.setw i x) H := by
  have hno : ∀ j' : Nat, ownB c S.s.ks (j' + 1) = true → i ≠ j' := fun j' ho' e => by
    subst e
    exact hne (in_one h.ok ho ho' hi (in_first h.ok ho')).symm
  refine ⟨h.li.setw fun k hk hm => hno i (h.own_of hk hm) rfl, fun y hy => ?_, fun j' ho' => ?_, fun j' hj' hb => ?_, h.ok, ?_⟩
  · obtain ⟨j', h1, h2, h3, h4, h5⟩ := h.ob y hy
    refine ⟨j', h1, by show j' < (S.s.ws.set i x).length; rw [List.length_set]; exact h2, h3, h4, ?_⟩
    show isObjW ((S.s.ws.set i x).getD j' 0) = true
    rw [getD_set_ne (hno j' h3)]
    exact h5
  · show isObjW ((S.s.ws.set i x).getD j' 0) = true → (S.s.ws.set i x).getD j' 0 / 256 % 256 = _
    rw [getD_set_ne (hno j' ho')]
    exact h.hw j' ho'
  · have hj' : j' < (S.s.ws.set i x).length := hj'
    rw [List.length_set] at hj'
    show (S.s.ws.set i x).getD j' 0 = 0
    have h1 := in_blk h.ok ho hi
    have hb : (S.s.ks.length : Int) ≤ (j' : Int) / c.c1 := hb
    rw [getD_set_ne (fun e => by subst e; omega)]
    exact h.zr j' hj' hb
  · show ((S.s.ws.set i x).length : Int) = _
    rw [List.length_set]
    exact h.len
/-- A header is laid into a slot in hand. -/
theorem HInv.head (h : HInv c S H) {j : Nat} {n : Int} (ho : ownB c S.s.ks (j + 1) = true) (hM : S.s.M (j + 1) = false) (hn : objOk (clsA c S.s.ks (j + 1)) n = true) : HInv c (S.setw j (hObj (clsA c S.s.ks (j + 1)) n)) H := by
  have hj := h.one ho
  obtain ⟨_, _, o3, _, o5, _, _⟩ := obj_facts hn
  refine ⟨h.li.setw fun k hk hm => ?_, fun y hy => ?_, fun j' ho' => ?_, fun j' hj' hb => ?_, h.ok, ?_⟩
  · rw [(h.li.mem j hj).2 ⟨k, hk, hm⟩] at hM
    cases hM
  · obtain ⟨j', h1, h2, h3, h4, h5⟩ := h.ob y hy
    refine ⟨j', h1, by show j' < (S.s.ws.set j _).length; rw [List.length_set]; exact h2, h3, h4, ?_⟩
    show isObjW ((S.s.ws.set j _).getD j' 0) = true
    by_cases e : j = j'
    · subst e
      rw [getD_set_eq hj]
      exact o3
    · rw [getD_set_ne e]
      exact h5
  · show isObjW ((S.s.ws.set j _).getD j' 0) = true → (S.s.ws.set j _).getD j' 0 / 256 % 256 = clsA c S.s.ks (j' + 1)
    by_cases e : j = j'
    · subst e
      rw [getD_set_eq hj]
      exact fun _ => o5
    · rw [getD_set_ne e]
      exact h.hw j' ho'
  · have hj' : j' < (S.s.ws.set j (hObj (clsA c S.s.ks (j + 1)) n)).length := hj'
    rw [List.length_set] at hj'
    show (S.s.ws.set j _).getD j' 0 = 0
    have h1 := in_blk h.ok ho (in_first h.ok ho)
    have hb : (S.s.ks.length : Int) ≤ (j' : Int) / c.c1 := hb
    rw [getD_set_ne (fun e => by subst e; omega)]
    exact h.zr j' hj' hb
  · show ((S.s.ws.set j _).length : Int) = _
    rw [List.length_set]
    exact h.len
/-- A slot in hand is put into its list. -/
theorem HInv.put (h : HInv c S H) {j k : Nat} (hk : k < 4) (ho : ownB c S.s.ks (j + 1) = true) (hc : clsA c S.s.ks (j + 1) = k) (hM : S.s.M (j + 1) = false) (hB : S.B (j + 1) = false) : HInv c { S with s := S.s.put j k } (updH H k (j :: H k)) := by
  have hj := h.one ho
  refine ⟨h.li.put hk hj ho hc hM, fun y hy => ?_, fun j' ho' => ?_, fun j' hj' hb => ?_, h.ok, ?_⟩
  · obtain ⟨j', h1, h2, h3, h4, h5⟩ := h.ob y hy
    have hne : j ≠ j' := fun e => by
      subst e
      have hy : S.B y = true := hy
      rw [h1, hB] at hy
      cases hy
    refine ⟨j', h1, by show j' < (S.s.ws.set j _).length; rw [List.length_set]; exact h2, h3, ?_, ?_⟩
    · show (if j' + 1 = j + 1 then true else S.s.M (j' + 1)) = false
      rw [if_neg (by omega)]
      exact h4
    · show isObjW ((S.s.ws.set j _).getD j' 0) = true
      rw [getD_set_ne hne]
      exact h5
  · show isObjW ((S.s.ws.set j _).getD j' 0) = true → (S.s.ws.set j _).getD j' 0 / 256 % 256 = clsA c S.s.ks (j' + 1)
    by_cases e : j = j'
    · subst e
      rw [getD_set_eq hj]
      intro hh
      obtain ⟨b0, b1⟩ := (h.li.thr k hk).bd
      have := (nxt_lnk b0 (by have := h.li.wle; omega)).2
      have h2 : isObjW (lnkW (S.s.f k)) = false := by
        have hl : linkOk (S.s.f k) = true := linkOk_iff.2 ⟨b0, by have := h.li.wle; omega⟩
        have e2 : lnkW (S.s.f k) = hLink (S.s.f k) := by unfold lnkW; rw [hl]
        rw [e2]
        exact (link_facts hl).2.2.2.1
      rw [h2] at hh
      cases hh
    · rw [getD_set_ne e]
      exact h.hw j' ho'
  · have hj' : j' < (S.s.ws.set j (lnkW (S.s.f k))).length := hj'
    rw [List.length_set] at hj'
    show (S.s.ws.set j _).getD j' 0 = 0
    have h1 := in_blk h.ok ho (in_first h.ok ho)
    have hb : (S.s.ks.length : Int) ≤ (j' : Int) / c.c1 := hb
    rw [getD_set_ne (fun e => by subst e; omega)]
    exact h.zr j' hj' hb
  · show ((S.s.ws.set j _).length : Int) = _
    rw [List.length_set]
    exact h.len
theorem HInv.tak (h : HInv c S H) {j k : Nat} {L : List Nat} (hk : k < 4) (hL : H k = j :: L) : HInv c { S with s := S.s.tak j k } (updH H k L) := by
  refine ⟨h.li.tak hk hL, fun y hy => ?_, h.hw, h.zr, h.ok, h.len⟩
  obtain ⟨j', h1, h2, h3, h4, h5⟩ := h.ob y hy
  refine ⟨j', h1, h2, h3, ?_, h5⟩
  show (if j' + 1 = j + 1 then false else S.s.M (j' + 1)) = false
  split
  · rfl
  · exact h4
/-- A slot in hand whose header is laid is an object from now on. -/
theorem HInv.bear (h : HInv c S H) {j : Nat} (ho : ownB c S.s.ks (j + 1) = true) (hM : S.s.M (j + 1) = false) (hb : isObjW (S.s.ws.getD j 0) = true) (K' : Nat → Bool) : HInv c { S with B := fun x => if x = j + 1 then true else S.B x, K := K' } H := by
  refine ⟨h.li, fun y hy => ?_, h.hw, h.zr, h.ok, h.len⟩
  by_cases e : y = j + 1
  · exact ⟨j, e, h.one ho, ho, hM, hb⟩
  · refine h.ob y ?_
    have hy : (if y = j + 1 then true else S.B y) = true := hy
    rwa [if_neg e] at hy
theorem HInv.unborn (h : HInv c S H) (j : Nat) : HInv c { S with B := fun x => if x = j + 1 then false else S.B x } H := by
  refine ⟨h.li, fun y hy => h.ob y ?_, h.hw, h.zr, h.ok, h.len⟩
  have hy : (if y = j + 1 then false else S.B y) = true := hy
  split at hy
  · cases hy
  · exact hy
theorem HInv.same (h : HInv c S H) (K' : Nat → Bool) (x' : List Int) : HInv c { S with K := K', x := x' } H := ⟨h.li, h.ob, h.hw, h.zr, h.ok, h.len⟩
/-- One more block is assigned. -/
theorem HInv.more (h : HInv c S H) (k : Int) : HInv c { S with s := { S.s with ks := S.s.ks ++ [k] } } H := by
  refine ⟨⟨h.li.thr, fun i hi j hj => ?_, h.li.nd, h.li.mem, h.li.zero, h.li.many, h.li.wle⟩, fun y hy => ?_, fun j ho hb => ?_, fun j hj hb => h.zr j hj ?_, h.ok, h.len⟩
  · obtain ⟨h1, h2⟩ := h.li.cls i hi j hj
    obtain ⟨h3, h4⟩ := own_more (k2 := k) h.ok h1
    exact ⟨h3, by show clsA c (S.s.ks ++ [k]) _ = _; rw [h4]; exact h2⟩
  · obtain ⟨j', h1, h2, h3, h4, h5⟩ := h.ob y hy
    exact ⟨j', h1, h2, (own_more h.ok h3).1, h4, h5⟩
  · have ho : ownB c (S.s.ks ++ [k]) (j + 1) = true := ho
    have hb : isObjW (S.s.ws.getD j 0) = true := hb
    show S.s.ws.getD j 0 / 256 % 256 = clsA c (S.s.ks ++ [k]) (j + 1)
    by_cases ho' : ownB c S.s.ks (j + 1) = true
    · rw [(own_more h.ok ho').2]
      exact h.hw j ho' hb
    · exfalso
      obtain ⟨b, i, k', g⟩ := slot_shape h.ok ho
      have hbl : ¬ b < S.s.ks.length := fun hlt => ho' (slot_own h.ok ⟨hlt, g.hbc, g.hk, by rw [← g.kb]; exact (getD_append_left hlt).symm, g.i1, g.ha, g.hq, by
        unfold clsA
        rw [g.hq]
        show S.s.ks.getD b 0 = k'
        rw [← g.kb]
        exact (getD_append_left hlt).symm⟩)
      have hz := h.zr j (in_lt h.ok h.len ho (in_first h.ok ho)) (by
        have := g.hq
        rw [show (j : Int) + 1 - 1 = j by omega] at this
        omega)
      rw [hz] at hb
      revert hb
      decide
  · have hb : (((S.s.ks ++ [k]).length : Nat) : Int) ≤ (j : Int) / c.c1 := hb
    rw [List.length_append] at hb
    simp at hb
    omega
end Go.Proofs.YtnobempbcdkoaaaGreatDoor
namespace Go.Proofs.YtnobempbcdkoaaaGreatDoor
open Go.RowKit

variable {c : Cf} {S S' S'' : HS} {H : Nat → List Nat}
/-- Objects stay, with their words and colors; blocks keep their classes; cells stay. -/
structure Ev (c : Cf) (S S' : HS) : Prop where
  len : S'.s.ws.length = S.s.ws.length
  x : S'.x = S.x
  ks : ∃ e, S'.s.ks = S.s.ks ++ e
  ob : ∀ j : Nat, S.B (j + 1) = true → S'.B (j + 1) = true ∧ S'.K (j + 1) = S.K (j + 1) ∧ ∀ i, InSlot c S.s.ks j i → S'.s.ws.getD i 0 = S.s.ws.getD i 0
theorem own_mores (hc : c.ok = true) {a : Int} : ∀ (e ks : List Int), ownB c ks a = true → ownB c (ks ++ e) a = true ∧ clsA c (ks ++ e) a = clsA c ks a
  | [], ks, h => by rw [List.append_nil]; exact ⟨h, rfl⟩
  | x :: e, ks, h => by
    obtain ⟨h1, h2⟩ := own_more (k2 := x) hc h
    have := own_mores hc e (ks ++ [x]) h1
    rw [List.append_assoc] at this
    exact ⟨this.1, this.2.trans h2⟩
theorem Ev.refl (c : Cf) (S : HS) : Ev c S S := ⟨rfl, rfl, ⟨[], (List.append_nil _).symm⟩, fun _ h => ⟨h, rfl, fun _ _ => rfl⟩⟩
theorem Ev.own (h : Ev c S S') (hc : c.ok = true) {a : Int} (ho : ownB c S.s.ks a = true) : ownB c S'.s.ks a = true ∧ clsA c S'.s.ks a = clsA c S.s.ks a := by
  obtain ⟨e, he⟩ := h.ks
  rw [he]
  exact own_mores hc e _ ho
theorem Ev.trans (h : Ev c S S') (g : Ev c S' S'') (hi : HInv c S H) : Ev c S S'' := by
  refine ⟨g.len.trans h.len, g.x.trans h.x, ?_, fun j hj => ?_⟩
  · obtain ⟨e1, h1⟩ := h.ks
    obtain ⟨e2, h2⟩ := g.ks
    exact ⟨e1 ++ e2, by rw [h2, h1, List.append_assoc]⟩
  · obtain ⟨a1, a2, a3⟩ := h.ob j hj
    obtain ⟨b1, b2, b3⟩ := g.ob j a1
    refine ⟨b1, b2.trans a2, fun i hi' => ?_⟩
    obtain ⟨j', e1, _, e3, _⟩ := hi.ob _ hj
    obtain rfl : j = j' := by omega
    have ho := h.own hi.ok e3
    exact (b3 i (by unfold InSlot at hi' ⊢; rw [ho.2]; exact hi')).trans (a3 i hi')
/-- A store into a slot that is no object's. -/
theorem Ev.word (hi : HInv c S H) {j i : Nat} {x : Int} (ho : ownB c S.s.ks (j + 1) = true) (hin : InSlot c S.s.ks j i) (hB : S.B (j + 1) = false) : Ev c S (S.setw i x) := by
  refine ⟨List.length_set, rfl, ⟨[], (List.append_nil _).symm⟩, fun j' hj' => ⟨hj', rfl, fun i' hi' => ?_⟩⟩
  obtain ⟨j2, e1, _, e3, _⟩ := hi.ob _ hj'
  obtain rfl : j' = j2 := by omega
  refine getD_set_ne (fun e => ?_)
  subst e
  obtain rfl := in_one hi.ok ho e3 hin hi'
  rw [hB] at hj'
  cases hj'
theorem Ev.put (hi : HInv c S H) {j k : Nat} (ho : ownB c S.s.ks (j + 1) = true) (hB : S.B (j + 1) = false) : Ev c S { S with s := S.s.put j k } :=
  have h := Ev.word (x := lnkW (S.s.f k)) hi ho (in_first hi.ok ho) hB
  ⟨h.len, rfl, h.ks, h.ob⟩
theorem Ev.tak (c : Cf) (S : HS) (j k : Nat) : Ev c S { S with s := S.s.tak j k } := ⟨rfl, rfl, ⟨[], (List.append_nil _).symm⟩, fun _ h => ⟨h, rfl, fun _ _ => rfl⟩⟩
theorem Ev.more (c : Cf) (S : HS) (k : Int) : Ev c S { S with s := { S.s with ks := S.s.ks ++ [k] } } := ⟨rfl, rfl, ⟨[k], rfl⟩, fun _ h => ⟨h, rfl, fun _ _ => rfl⟩⟩
theorem Ev.bear (c : Cf) (S : HS) {j : Nat} (hB : S.B (j + 1) = false) (b : Bool) : Ev c S { S with B := fun x => if x = j + 1 then true else S.B x, K := fun x => if x = j + 1 then b else S.K x } := by
  refine ⟨rfl, rfl, ⟨[], (List.append_nil _).symm⟩, fun j' h => ⟨?_, ?_, fun _ _ => rfl⟩⟩
  · show (if j' + 1 = j + 1 then true else S.B (j' + 1)) = true
    rw [h]
    split <;> rfl
  · show (if j' + 1 = j + 1 then b else S.K (j' + 1)) = S.K (j' + 1)
    rw [if_neg (fun e => by
      have : j' = j := by omega
      subst this
      rw [hB] at h
      cases h)]
end Go.Proofs.YtnobempbcdkoaaaGreatDoor
namespace Go.Proofs.YtnobempbcdkoaaaGreatDoor
open Go.RowKit

variable {W w w' : World} {A : HA} {c : Cf} {S : HS}
theorem heap_color (n : Int) (w : World) : Calls Tryz.prog 114 #[.int .i64 n] w fun e w' => e = .returned (.bool (decide (n = 0) || decide (n = 1))) ∧ w = w' := by
  by_cases h0 : n = 0
  · subst h0
    go_enter Tryz.func114, Tryz.ntmps114
    go_wp2
    go_ret
    exact ⟨rfl, rfl⟩
  · by_cases h1 : n = 1
    · subst h1
      go_enter Tryz.func114, Tryz.ntmps114
      go_wp2
      go_ret
      exact ⟨rfl, rfl⟩
    · have hb0 : (n == 0) = false := by simpa using h0
      have hb1 : (n == 1) = false := by simpa using h1
      go_enter Tryz.func114, Tryz.ntmps114
      go_wp2
      go_ret
      exact ⟨ret_b (by simp [h0, h1]), rfl⟩
def triO (X K : Int) : Bool → Value
  | true => .tuple #[.int .i64 X, .int .i64 K, .bool true]
  | false => .tuple #[.int .i64 0, .int .i64 0, .bool false]
theorem owV_tri {ks : List Int} (a : Int) (b : Bool) : owV c ks a b = triO ((a - 1) / c.c1) (clsA c ks a) b := by cases b <;> rfl
/-- The class that is told of an address. -/
def HS.kls (S : HS) (c : Cf) (a : Int) : Int := match S.own c a with | true => clsA c S.s.ks a | false => 0
theorem heap_hand (a : Int) (h : HpAt W w A c S) (hL : Laid W) :
    Calls Tryz.prog 105 #[.pointer (some ⟨A.h, 0, none⟩), .int .i64 a] w fun e w' => e = .returned (.tuple #[.int .i64 (S.kls c a), .bool (S.hand c a)]) ∧ Touch nob w w' := by
  obtain ⟨cx, d0, d1, d2, d3, d4, d5, -⟩ := h.cells
  have hkl : S.kls c a = match S.own c a with | true => clsA c S.s.ks a | false => 0 := rfl
  have hha : S.hand c a = (S.own c a && (!S.obj a && !S.fre a)) := rfl
  have how := h.owner a hL
  have hbo := fun w1 (ht : Touch nob w w1) => (h.old ht).set_born a
  have hfr := fun w1 (ht : Touch nob w w1) => (h.old ht).lists_has a
  obtain ⟨K, hK⟩ : ∃ K, S.kls c a = K := ⟨_, rfl⟩
  obtain ⟨bo, hb1⟩ : ∃ b, S.obj a = b := ⟨_, rfl⟩
  obtain ⟨fr, hf1⟩ : ∃ b, S.fre a = b := ⟨_, rfl⟩
  obtain ⟨ow, ho1⟩ : ∃ b, S.own c a = b := ⟨_, rfl⟩
  obtain ⟨hd, hd1⟩ : ∃ b, S.hand c a = b := ⟨_, rfl⟩
  obtain ⟨X, hX⟩ : ∃ X, (a - 1) / c.c1 = X := ⟨_, rfl⟩
  rw [hK, ho1] at hkl
  rw [hd1, ho1, hb1, hf1] at hha
  rw [ho1] at how
  rw [owV_tri, hX] at how
  have hbo' : ∀ w1, Touch nob w w1 → Calls Tryz.prog 55 #[.pointer (some ⟨A.pb, 0, none⟩), .int .i64 a] w1 fun e w' => e = .returned (.bool bo) ∧ w1 = w' := fun w1 ht => by
    have := hbo w1 ht
    rwa [hb1] at this
  have hfr' : ∀ w1, Touch nob w w1 → Calls Tryz.prog 144 #[.pointer (some ⟨A.L.p, 0, none⟩), .int .i64 a] w1 fun e w' => e = .returned (.bool fr) ∧ w1 = w' := fun w1 ht => by
    have := hfr w1 ht
    rwa [hf1] at this
  rw [hK, hd1, hha]
  have HSC := Lib.hid (fun w' (ht : Touch nob w w') => (h.old ht).cells)
  have HC := Lib.hid (And.intro hbo' hfr')
  have HW := Lib.hid how
  have HK := Lib.hid hkl
  clear h hL d0 d2 d3 d4 d5 how hbo hfr hbo' hfr' hK hb1 hf1 ho1 hd1 hX hkl hha
  cases ow
  · have hK0 : K = 0 := HK.out
    subst hK0
    clear HK
    go_enter Tryz.func105, Tryz.ntmps105
    go_wp2_with (go_at_call 143; fail)
    refine HW.out.mono ?_
    rintro e w1 ⟨rfl, hT1⟩
    rw [show triO X (clsA c S.s.ks a) false = .tuple #[.int .i64 0, .int .i64 0, .bool false] from rfl]
    have H1 := Lib.hid hT1
    clear hT1 d1
    go_wp2
    go_ret2
    exact ⟨rfl, H1.out⟩
  · have hK0 : K = clsA c S.s.ks a := HK.out
    rw [← hK0] at HW
    clear HK hK0
    cases bo
    · cases fr
      all_goals
        go_enter Tryz.func105, Tryz.ntmps105
        go_wp2_with (go_at_call 143; fail)
        refine HW.out.mono ?_
        rintro e w1 ⟨rfl, hT1⟩
        rw [show triO X K true = .tuple #[.int .i64 X, .int .i64 K, .bool true] from rfl]
        obtain ⟨cx1, -, -, d2, d3, -, -, -⟩ := HSC.out _ hT1
        have H1 := Lib.hid hT1
        clear hT1 d1
        go_wp2_with (go_at_call 55; fail)
        refine (HC.out.1 w1 H1.out).mono ?_
        rintro e w2 ⟨rfl, rfl⟩
        go_wp2_with (go_at_call 144; fail)
        refine (HC.out.2 w1 H1.out).mono ?_
        rintro e w2 ⟨rfl, rfl⟩
        go_wp2
        go_ret2
        exact ⟨rfl, H1.out⟩
    · go_enter Tryz.func105, Tryz.ntmps105
      go_wp2_with (go_at_call 143; fail)
      refine HW.out.mono ?_
      rintro e w1 ⟨rfl, hT1⟩
      rw [show triO X K true = .tuple #[.int .i64 X, .int .i64 K, .bool true] from rfl]
      obtain ⟨cx1, -, -, d2, d3, -, -, -⟩ := HSC.out _ hT1
      have H1 := Lib.hid hT1
      clear hT1 d1
      go_wp2_with (go_at_call 55; fail)
      refine (HC.out.1 w1 H1.out).mono ?_
      rintro e w2 ⟨rfl, rfl⟩
      go_wp2
      go_ret2
      exact ⟨rfl, H1.out⟩
theorem HS.word_bd (h : HpAt W w A c S) (a : Int) : 0 ≤ S.word a ∧ S.word a < 18446744073709551616 := by
  unfold HS.word
  split
  · exact h.ls.wok _ (by omega)
  · exact ⟨by decide, by decide⟩
theorem header_ParseV (x : Int) (h0 : 0 ≤ x) (h1 : Hid (x < 18446744073709551616)) (w : World) (hS : Sizes w) :
    Calls Tryz.prog 145 #[.int .u64 x] w fun e w' => ∃ k, e = .returned (.tuple #[.int .i64 k, .int .i64 (fldW x), .bool (isObjW x)]) ∧ w = w' :=
  (header_Parse x h0 h1 w hS).mono fun _ _ g => ⟨_, g.1, g.2⟩
theorem heap_header (a : Int) (h : HpAt W w A c S) (hL : Laid W) :
    Calls Tryz.prog 106 #[.pointer (some ⟨A.h, 0, none⟩), .int .i64 a] w fun e w' => e = .returned (.tuple #[.int .i64 (S.flds a), .bool (S.begun a)]) ∧ Touch (HT A) w w' ∧ HpAt W w' A c S := by
  obtain ⟨cx, d0, d1, d2, d3, d4, d5, -⟩ := h.cells
  have hld := h.load a
  have hbd := HS.word_bd h a
  have hfl : S.flds a = fldW (S.word a) := rfl
  have hbg : S.begun a = isObjW (S.word a) := rfl
  rw [hfl, hbg]
  obtain ⟨er, her⟩ : ∃ er, atE S.s.ws.length a = er := ⟨_, rfl⟩
  rw [her] at hld
  have hpa := fun w1 (h1 : HpAt W w1 A c S) => header_ParseV (S.word a) hbd.1 hbd.2 w1 (hL.old h1.base).siz
  obtain ⟨x, hx⟩ : ∃ x, S.word a = x := ⟨_, rfl⟩
  rw [hx] at hld hpa ⊢
  obtain ⟨f, hf⟩ : ∃ f, fldW x = f := ⟨_, rfl⟩
  obtain ⟨o, ho⟩ : ∃ o, isObjW x = o := ⟨_, rfl⟩
  rw [hf, ho] at hpa ⊢
  have H := Lib.hid (And.intro hld hpa)
  clear h hL hld d1 d2 d3 d4 d5 hfl hbg hx her hpa hbd hf ho
  go_enter Tryz.func106, Tryz.ntmps106
  go_wp2_with (go_at_call 60; fail)
  refine H.out.1.mono ?_
  rintro e w1 ⟨rfl, hT1, h1⟩
  have H1 := Lib.hid (And.intro hT1 h1)
  clear hT1 h1
  go_wp2_with (go_at_call 145; fail)
  refine (H.out.2 w1 H1.out.2).mono ?_
  rintro e w2 ⟨k, rfl, rfl⟩
  go_wp2
  go_ret2
  exact ⟨rfl, H1.out⟩
theorem heap_value (v : Int) (h : HpAt W w A c S) :
    Calls Tryz.prog 92 #[.pointer (some ⟨A.h, 0, none⟩), .int .i64 v] w fun e w' => e = .returned (.bool (decide (0 ≤ v) && decide (v ≤ S.s.ws.length))) ∧ w = w' := by
  obtain ⟨cx, d0, -, -, -, -, -, -⟩ := h.cells
  obtain ⟨ca, lo, st, ha⟩ := h.ls.ar
  have H := Lib.hid ha
  clear h ha
  obtain ⟨z, hz⟩ : ∃ z, S.s.ws.length = z := ⟨_, rfl⟩
  have HZ := Lib.hid hz
  rw [hz]
  clear hz
  by_cases h0 : 0 ≤ v
  · go_enter Tryz.func92, Tryz.ntmps92
    go_wp2_with (go_at_call 135; fail)
    refine (arena_Len _ _ ca _ lo st w H.out).mono ?_
    rintro e w3 ⟨rfl, rfl⟩
    rw [HZ.out]
    go_wp2
    go_ret
    exact ⟨ret_b (by simp [h0]), rfl⟩
  · have HD := Lib.hid (decide_eq_false h0)
    go_enter Tryz.func92, Tryz.ntmps92
    go_wp2
    go_ret
    exact ⟨ret_b (by rw [HD.out]; rfl), rfl⟩
end Go.Proofs.YtnobempbcdkoaaaGreatDoor
namespace Go.Proofs.YtnobempbcdkoaaaGreatDoor
open Go.RowKit

variable {W w w' : World} {A : HA} {c : Cf} {S : HS}
def HS.celB (S : HS) (i : Int) : Prop := 0 ≤ i ∧ i < S.x.length
instance (S : HS) (i : Int) : Decidable (S.celB i) := by unfold HS.celB; infer_instance
def HS.celV (S : HS) (i : Int) : Int := if S.celB i then S.x.getD i.toNat 0 else 0
def HS.celE (S : HS) (i : Int) : Int := if S.celB i then 0 else 9
def HS.setE (S : HS) (i v : Int) : Int := if S.celB i then (if 0 ≤ v ∧ v ≤ S.s.ws.length then 0 else 4) else 9
def HS.setS (S : HS) (i v : Int) : HS := if S.setE i v = 0 then { S with x := S.x.set i.toNat v } else S
end Go.Proofs.YtnobempbcdkoaaaGreatDoor
