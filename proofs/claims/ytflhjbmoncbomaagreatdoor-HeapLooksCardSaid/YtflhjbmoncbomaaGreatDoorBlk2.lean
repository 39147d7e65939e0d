/- Tables of blocks: New, Config, Assign, Class, Copy, walked. Conditions: the tables of limits and of sizes read as laid, where said. Tables of blocks: Assign, Class, Copy, walked. Conditions: none beyond what each says. -/
import Derived.Test.YtflhjbmoncbomaaGreatDoorSlots
import Derived.Deep.RegionHeld3
import Derived.BigRegion
namespace Go.Proofs.YtflhjbmoncbomaaGreatDoor
open Go.RowKit

structure Cf where
  c0 : Int
  c1 : Int
  c2 : Int
  c3 : Int
  c4 : Int
  c5 : Int
  c6 : Int
abbrev Cf.V (c : Cf) : Value := CfgV c.c0 c.c1 c.c2 c.c3 c.c4 c.c5 c.c6
abbrev Cf.ok (c : Cf) : Bool := cfgOk c.c0 c.c1 c.c2 c.c3 c.c4 c.c5 c.c6
/-- What the cells of the classes hold. -/
def kint (ks : List Int) (n : Nat) : List Int := ks.map (fun k => k + 1) ++ List.replicate (n - ks.length) 0
theorem kint_len {ks : List Int} {n : Nat} (h : ks.length ≤ n) : (kint ks n).length = n := by unfold kint; simp; omega
theorem kint_lt {ks : List Int} {n j : Nat} (h : j < ks.length) : (kint ks n).getD j 0 = ks.getD j 0 + 1 := by
  unfold kint
  rw [List.getD_eq_getElem?_getD, List.getElem?_append_left (by simpa using h), List.getElem?_map, List.getD_eq_getElem?_getD, List.getElem?_eq_getElem h]
  rfl
theorem kint_ge {ks : List Int} {n j : Nat} (h : ks.length ≤ j) : (kint ks n).getD j 0 = 0 := by
  unfold kint
  rw [List.getD_eq_getElem?_getD, List.getElem?_append_right (by simpa using h), List.getElem?_replicate]
  split <;> rfl
theorem getD_append_left {l r : List Int} {i : Nat} (h : i < l.length) : (l ++ r).getD i 0 = l.getD i 0 := by
  simp [List.getD_eq_getElem?_getD, List.getElem?_append_left h]
theorem getD_snoc {l : List Int} {k : Int} : (l ++ [k]).getD l.length 0 = k := by simp [List.getD_eq_getElem?_getD]
theorem ext_getD {l r : List Int} (hl : l.length = r.length) (h : ∀ i, i < l.length → l.getD i 0 = r.getD i 0) : l = r := by
  apply List.ext_getElem hl
  intro i h1 h2
  have := h i h1
  rwa [List.getD_eq_getElem?_getD, List.getD_eq_getElem?_getD, List.getElem?_eq_getElem h1, List.getElem?_eq_getElem h2] at this
theorem getD_setI {l : List Int} {i j : Nat} {x : Int} (hi : i < l.length) : (l.set i x).getD j 0 = if i = j then x else l.getD j 0 := by
  rw [List.getD_eq_getElem?_getD, List.getD_eq_getElem?_getD, List.getElem?_set]
  by_cases hij : i = j
  · subst hij; simp [hi]
  · simp [hij]
theorem kint_snoc {ks : List Int} {n : Nat} {k : Int} (h : ks.length < n) : kint (ks ++ [k]) n = (kint ks n).set ks.length (k + 1) := by
  have hl : ks.length < (kint ks n).length := by rw [kint_len (by omega)]; exact h
  refine ext_getD (by rw [List.length_set, kint_len (by simp; omega), kint_len (by omega)]) fun i _ => ?_
  rw [getD_setI hl]
  by_cases hi : ks.length = i
  · subst hi
    rw [if_pos rfl, kint_lt (ks := ks ++ [k]) (j := ks.length) (by simp), getD_snoc]
  · rw [if_neg hi]
    by_cases hil : i < ks.length
    · rw [kint_lt (ks := ks) hil, kint_lt (ks := ks ++ [k]) (j := i) (by simp; omega), getD_append_left hil]
    · rw [kint_ge (ks := ks) (j := i) (by omega), kint_ge (ks := ks ++ [k]) (j := i) (by simp; omega)]
/-- A table: its box, its row, the classes of the blocks that are assigned. -/
structure BlkAt (w : World) (p q cap n : Nat) (c : Cf) (ks : List Int) : Prop where
  box : w.heap[p]? = some (.cells #[.int .i64 c.c0, .int .i64 c.c1, .int .i64 c.c2, .int .i64 c.c3, .int .i64 c.c4, .int .i64 c.c5, .int .i64 c.c6, .slice (some ⟨q, 0, none⟩) n cap] 134)
  row : RowAt w q 3 cap ((kint ks n).map (.int .i64))
  ok : c.ok = true
  hn : (n : Int) = c.c0
  le : ks.length ≤ n
  cls : ∀ j, j < ks.length → isCls (ks.getD j 0) = true
variable {w : World} {p q cap n : Nat} {c : Cf} {ks : List Int}
theorem BlkAt.n4 (h : BlkAt w p q cap n c ks) : 1 ≤ n ∧ n ≤ 4096 := by
  have := (cfgOk_iff.1 h.ok).1
  have := h.hn
  omega
theorem BlkAt.ne (h : BlkAt w p q cap n c ks) : p ≠ q := by
  rintro rfl
  obtain ⟨_, h1, _⟩ := h.row
  have := h.box.symm.trans h1
  simp at this
theorem BlkAt.touch {S : Nat → Prop} {w' : World} (h : BlkAt w p q cap n c ks) (ht : Touch S w w') (hp : ¬ S p) (hq : ¬ S q) : BlkAt w' p q cap n c ks :=
  ⟨blk_touch h.box ht hp, h.row.touch ht hq, h.ok, h.hn, h.le, h.cls⟩
theorem BlkAt.old {w' : World} (h : BlkAt w p q cap n c ks) (ht : Touch nob w w') : BlkAt w' p q cap n c ks := h.touch ht (fun x => x) (fun x => x)
theorem box8 {w : World} {b : Nat} {v0 v1 v2 v3 v4 v5 v6 v7 : Value} {t : TypeId} (h : w.heap[b]? = some (.cells #[v0, v1, v2, v3, v4, v5, v6, v7] t)) :
    (w.cell? ⟨b, 0, none⟩ = some v0 ∧ w.cell? ⟨b, 1, none⟩ = some v1 ∧ w.cell? ⟨b, 2, none⟩ = some v2 ∧ w.cell? ⟨b, 3, none⟩ = some v3) ∧ w.cell? ⟨b, 4, none⟩ = some v4 ∧ w.cell? ⟨b, 5, none⟩ = some v5 ∧ w.cell? ⟨b, 6, none⟩ = some v6 ∧ w.cell? ⟨b, 7, none⟩ = some v7 := by
  simp [World.cell?, h]
theorem int_cell {xs : List Int} {cap : Nat} (h : RowAt w q 3 cap (xs.map (.int .i64))) {i : Nat} (hi : i < xs.length) : w.cell? ⟨q, i, none⟩ = some (.int .i64 (xs.getD i 0)) := by
  rw [h.cell (j := i) (by simpa using hi)]
  simp [List.getD_eq_getElem?_getD, hi]
theorem made_ints (n : Nat) : (madeCells (Value.int .i64 0).cells (n * 1)).toList = (kint [] n).map (.int .i64) := by
  apply List.ext_getElem?
  intro i
  simp only [madeCells, Nat.mul_one, Array.toList_map, Array.toList_range, List.getElem?_map, kint]
  by_cases hi : i < n
  · simp [hi, Value.cells, Nat.mod_one]
  · simp [hi]

/-- make, by a name that the walk does not open. -/
def Mksl (t : TypeId) (l c : Value) : Sem Value := Instr.makeSlice t l c
theorem make_mksl (t : TypeId) (l c : Value) : Instr.makeSlice t l c = Mksl t l c := rfl
section
attribute [local go_sem ↓ high] make_mksl
theorem block_New_ok (c : Cf) (w : World) (hL : Limits w) (hc : c.ok = true) (n : Nat) (hn : (n : Int) = c.c0) :
    Calls Tryz.prog 56 #[c.V] w fun e w' => ∃ p q, e = .returned (.tuple #[.pointer (some ⟨p, 0, none⟩), .int .i64 0]) ∧ Touch nob w w' ∧ w.heap.size ≤ p ∧ w.heap.size ≤ q ∧ BlkAt w' p q n n c [] := by
  obtain ⟨i0, hi, hz0, hz1, hz2⟩ := info_parts info_int2
  have hn4 : n ≤ 4096 := by have := (cfgOk_iff.1 hc).1; omega
  have HH := Lib.hid (And.intro hL (And.intro hc hn))
  obtain ⟨c0, c1, c2, c3, c4, c5, c6⟩ := c
  simp only at hn
  subst hn
  clear hL hc
  go_enter Tryz.func56, Tryz.ntmps56
  go_wp2_with (go_at_call 103; fail)
  obtain ⟨W, hW⟩ : ∃ W, W = w.alloc (Obj.cells (CfgRow (n : Int) c1 c2 c3 c4 c5 c6) 23) := ⟨_, rfl⟩
  rw [← hW]
  have hT : Touch nob w W := by rw [hW]; (repeat (first | with_reducible exact Touch.refl _ _ | with_reducible assumption | with_reducible apply Touch.alloc | with_reducible apply Touch.drewN | with_reducible apply Touch.drew | with_reducible refine Touch.setCell ?_ (.inr (by first | omega | (simp; done) | (simp; omega))) _))
  have hbx : W.heap[w.heap.size]? = some (Obj.cells (CfgRow (n : Int) c1 c2 c3 c4 c5 c6) 23) := by rw [hW]; exact World.alloc_heap_new w _
  obtain ⟨b0, hb0⟩ : ∃ b, b = w.heap.size := ⟨_, rfl⟩
  rw [← hb0] at hbx ⊢
  refine (config_Right _ _ _ _ _ _ _ W (HH.out.1.touch hT (fun x => x))).mono ?_
  rintro e w1 ⟨rfl, hb1⟩
  rw [show cfgOk (n : Int) c1 c2 c3 c4 c5 c6 = true from HH.out.2.1]
  have HT : Hid (Touch nob w w1) := hT.trans (Touch.of_below hb1)
  obtain ⟨k0, k1, k2, k3, k4, k5, k6⟩ := cfg_box hbx (Touch.of_below hb1)
  have hb1l : b0 < w1.heap.size := Nat.lt_of_lt_of_le (blk_lt hbx) (Touch.of_below (S := nob) hb1).size
  clear hT hbx hb0 hW hb1
  obtain ⟨w2, hrun, hown, hgrow⟩ := run_make_full (P := Tryz.prog) w1.drew w1.heap.size 46 3 i0 (.int .i64 0) 1 Tryz.underlying46 hi hz0 hz1 .i64 .i64 n (by rw [hz2]; omega) (by unfold maxLen; omega) (Nat.le_refl _)
  change (Mksl _ _ _).run _ _ = _ at hrun
  rw [made_ints] at hown
  obtain ⟨hr, _, _⟩ := RowAt.of_owns hown
  have hT2 : Touch nob w1 w2 := ((Touch.refl nob w1).drew).grown hgrow (fun _ h => by cases h)
  have y0 := (hT2.cell (o := 0) hb1l (fun x => x)).trans k0
  have y1 := (hT2.cell (o := 1) hb1l (fun x => x)).trans k1
  have y2 := (hT2.cell (o := 2) hb1l (fun x => x)).trans k2
  have y3 := (hT2.cell (o := 3) hb1l (fun x => x)).trans k3
  have y4 := (hT2.cell (o := 4) hb1l (fun x => x)).trans k4
  have y5 := (hT2.cell (o := 5) hb1l (fun x => x)).trans k5
  have y6 := (hT2.cell (o := 6) hb1l (fun x => x)).trans k6
  have HX := Lib.hid (And.intro hr hT2)
  clear hown hgrow hr hT2
  go_wp2_with fail
  go_region
  all_goals
    go_wp2
    go_ret2
    have hT2 := HX.out.2
    exact ⟨w2.heap.size, w1.heap.size, rfl, (HT.out.trans hT2).alloc _, (HT.out.trans hT2).size, HT.out.size, ⟨World.alloc_heap_new w2 _, HX.out.1.touch ((Touch.refl nob _).alloc _) (fun x => x), HH.out.2.1, rfl, Nat.zero_le _, fun j hj => by simp at hj⟩⟩
end
theorem block_New_no (c : Cf) (w : World) (hL : Limits w) (hc : c.ok = false) :
    Calls Tryz.prog 56 #[c.V] w fun e w' => e = .returned (.tuple #[.pointer none, .int .i64 1]) ∧ Touch nob w w' := by
  go_enter Tryz.func56, Tryz.ntmps56
  go_wp2_with (go_at_call 103; fail)
  have hT : Touch nob w (w.alloc (Obj.cells (CfgRow c.c0 c.c1 c.c2 c.c3 c.c4 c.c5 c.c6) 23)) := by (repeat (first | with_reducible exact Touch.refl _ _ | with_reducible assumption | with_reducible apply Touch.alloc | with_reducible apply Touch.drewN | with_reducible apply Touch.drew | with_reducible refine Touch.setCell ?_ (.inr (by first | omega | (simp; done) | (simp; omega))) _))
  refine (config_Right _ _ _ _ _ _ _ _ (hL.touch hT (fun x => x))).mono ?_
  rintro e w1 ⟨rfl, hb1⟩
  rw [show cfgOk c.c0 c.c1 c.c2 c.c3 c.c4 c.c5 c.c6 = false from hc]
  have HT := Lib.hid (hT.trans (Touch.of_below hb1))
  clear hb1 hT
  go_wp2
  go_ret2
  exact ⟨rfl, HT.out⟩
theorem blk_Config (h : BlkAt w p q cap n c ks) :
    Calls Tryz.prog 97 #[.pointer (some ⟨p, 0, none⟩)] w fun e w' => e = .returned c.V ∧ Touch nob w w' := by
  obtain ⟨W, hW⟩ : ∃ W, W = w.alloc (Obj.cells (CfgRow 0 0 0 0 0 0 0) 23) := ⟨_, rfl⟩
  have hT : Touch nob w W := by rw [hW]; (repeat (first | with_reducible exact Touch.refl _ _ | with_reducible assumption | with_reducible apply Touch.alloc | with_reducible apply Touch.drewN | with_reducible apply Touch.drew | with_reducible refine Touch.setCell ?_ (.inr (by first | omega | (simp; done) | (simp; omega))) _))
  have hbx : W.heap[w.heap.size]? = some (Obj.cells (CfgRow 0 0 0 0 0 0 0) 23) := by rw [hW]; exact World.alloc_heap_new w _
  obtain ⟨⟨d0, d1, d2, d3⟩, d4, d5, d6, d7⟩ := box8 (h.old hT).box
  obtain ⟨k0, k1, k2, k3, k4, k5, k6⟩ := cfg_box hbx (Touch.refl _ _)
  have f0 : ∀ j, W.frozen? ⟨w.heap.size, j, none⟩ = false := fun j => by simp [World.frozen?, hbx]
  have g0 := f0 0; have g1 := f0 1; have g2 := f0 2; have g3 := f0 3; have g4 := f0 4; have g5 := f0 5; have g6 := f0 6
  have HT := Lib.hid (And.intro hT hbx)
  subst hW
  clear hT hbx f0 h
  go_enter Tryz.func97, Tryz.ntmps97
  go_wp2
  have hbx : (w.alloc (Obj.cells (CfgRow c.c0 c.c1 c.c2 c.c3 c.c4 c.c5 c.c6) 23)).heap[w.heap.size]? = some (Obj.cells (CfgRow c.c0 c.c1 c.c2 c.c3 c.c4 c.c5 c.c6) 23) := World.alloc_heap_new w _
  obtain ⟨y0, y1, y2, y3, y4, y5, y6⟩ := cfg_box hbx (Touch.refl _ _)
  refine bodyPost_ret (v := c.V) (by simp [results, Tryz.results97, go_sem, y0, y1, y2, y3, y4, y5, y6]) rfl ⟨rfl, ?_⟩
  (repeat (first | with_reducible exact Touch.refl _ _ | with_reducible assumption | with_reducible apply Touch.alloc | with_reducible apply Touch.drewN | with_reducible apply Touch.drew | with_reducible refine Touch.setCell ?_ (.inr (by first | omega | (simp; done) | (simp; omega))) _))
theorem blk_Config_nil (w : World) :
    Calls Tryz.prog 97 #[.pointer none] w fun e w' => e = .returned (CfgV 0 0 0 0 0 0 0) ∧ Touch nob w w' := by
  obtain ⟨W, hW⟩ : ∃ W, W = w.alloc (Obj.cells (CfgRow 0 0 0 0 0 0 0) 23) := ⟨_, rfl⟩
  have hT : Touch nob w W := by rw [hW]; (repeat (first | with_reducible exact Touch.refl _ _ | with_reducible assumption | with_reducible apply Touch.alloc | with_reducible apply Touch.drewN | with_reducible apply Touch.drew | with_reducible refine Touch.setCell ?_ (.inr (by first | omega | (simp; done) | (simp; omega))) _))
  have hbx : W.heap[w.heap.size]? = some (Obj.cells (CfgRow 0 0 0 0 0 0 0) 23) := by rw [hW]; exact World.alloc_heap_new w _
  obtain ⟨k0, k1, k2, k3, k4, k5, k6⟩ := cfg_box hbx (Touch.refl _ _)
  have f0 : ∀ j, W.frozen? ⟨w.heap.size, j, none⟩ = false := fun j => by simp [World.frozen?, hbx]
  have g0 := f0 0; have g1 := f0 1; have g2 := f0 2; have g3 := f0 3; have g4 := f0 4; have g5 := f0 5; have g6 := f0 6
  have HT := Lib.hid (And.intro hT hbx)
  subst hW
  clear hT hbx f0
  go_enter Tryz.func97, Tryz.ntmps97
  go_wp2
  refine bodyPost_ret (v := CfgV 0 0 0 0 0 0 0) (by simp [results, Tryz.results97, go_sem, k0, k1, k2, k3, k4, k5, k6]) rfl ⟨rfl, ?_⟩
  exact HT.out.1
theorem blk_Class_ok (b : Nat) (h : BlkAt w p q cap n c ks) (hb : b < ks.length) :
    Calls Tryz.prog 116 #[.pointer (some ⟨p, 0, none⟩), .int .i64 b] w fun e w' => e = .returned (.tuple #[.int .i64 (ks.getD b 0), .bool true]) ∧ w = w' := by
  obtain ⟨⟨d0, d1, d2, d3⟩, d4, d5, d6, d7⟩ := box8 h.box
  have hbn : b < n := Nat.lt_of_lt_of_le hb h.le
  have hbi : (b : Int) < (n : Int) := by omega
  have hn4 := h.n4.2
  have dq := int_cell h.row (i := b) (by rw [kint_len h.le]; exact hbn)
  rw [kint_lt hb] at dq
  obtain ⟨k0, k1⟩ := isCls_iff.1 (h.cls b hb)
  obtain ⟨k, hk⟩ : ∃ k, ks.getD b 0 = k := ⟨_, rfl⟩
  rw [hk] at dq k0 k1 ⊢
  clear h hk d0 d1 d2 d3 d4 d5 d6
  have hne : ((k + 1 : Int) == 0) = false := by simp; omega
  go_enter Tryz.func116, Tryz.ntmps116
  go_wp2
  go_ret2
  exact ⟨rfl, rfl⟩
theorem slices_Index (xs : List Int) (cap : Nat) (v : Int) (m : Nat) (h : RowAt w q 3 cap (xs.map (.int .i64))) (hl : xs.length ≤ 4096) (hm : m ≤ xs.length) (h1 : ∀ i, i < m → xs.getD i 0 ≠ v) (h2 : m < xs.length → xs.getD m 0 = v) :
    Calls Tryz.prog 120 #[.slice (some ⟨q, 0, none⟩) xs.length cap, .int .i64 v] w fun e w' => e = .returned (.int .i64 (if m < xs.length then (m : Int) else -1)) ∧ Touch nob w w' := by
  obtain ⟨n, hn⟩ : ∃ n, xs.length = n := ⟨_, rfl⟩
  rw [hn] at hl hm ⊢
  have hcap : n ≤ cap := by obtain ⟨_, _, _, hc, _⟩ := id h; rw [List.length_map, hn] at hc; exact hc
  have H := Lib.hid (And.intro h (And.intro h1 (And.intro h2 hn)))
  clear h h1 h2 hn
  go_enter Tryz.func120, Tryz.ntmps120
  go_wp2_with fail
  go_loopw [8] (fun i wr => ∃ k : Nat, i = .int .i64 k ∧ k ≤ m ∧ wr = w) (fun i _ => n - (intOf i).toNat)
  case atStart => exact ⟨0, rfl, Nat.zero_le _, rfl⟩
  case round =>
    obtain ⟨k, rfl, hk, rfl⟩ := hrel
    by_cases hkn : k < n
    · have dq := int_cell H.out.1 (i := k) (by rw [H.out.2.2.2]; exact hkn)
      have hb : (k : Int) < (n : Int) := by omega
      by_cases hkm : k = m
      · subst hkm
        rw [H.out.2.2.1 (by rw [H.out.2.2.2]; exact hkn)] at dq
        go_wp2
        go_ret
        exact ⟨rfl, Touch.refl _ _⟩
      · have hne := H.out.2.1 k (by omega)
        obtain ⟨x, hx⟩ : ∃ x, xs.getD k 0 = x := ⟨_, rfl⟩
        rw [hx] at dq hne
        have hne' : (v == x) = false := by simpa using fun e => hne e.symm
        clear hne hx
        go_wp2
        go_roundw
        case rel => exact ⟨k + 1, by go_num, by omega, trivial⟩
        case measure => simp [intOf]; omega
    · have : ¬ (k : Int) < (n : Int) := by omega
      go_wp2
      go_ret
      exact ⟨rfl, Touch.refl _ _⟩
end Go.Proofs.YtflhjbmoncbomaaGreatDoor
namespace Go.Proofs.YtflhjbmoncbomaaGreatDoor
open Go.RowKit

variable {w : World} {p q cap n : Nat} {c : Cf} {ks : List Int}
theorem clone_int (q cap : Nat) (ws : List Int) (w : World) (h : RowAt w q 3 cap (ws.map (.int .i64))) (h2 : ws.length ≤ 1048576) :
    Calls Tryz.prog 131 #[.slice (some ⟨q, 0, none⟩) ws.length cap] w fun e w' => ∃ g cap', e = .returned (.slice (some ⟨g, 0, none⟩) ws.length cap') ∧ Touch nob w w' ∧ w.heap.size ≤ g ∧ RowAt w' g 3 cap' (ws.map (.int .i64)) := by
  obtain ⟨i0, hi, hz0, hz1, hz2⟩ := info_parts info_int2
  have hq := h.lt
  have HC := Lib.hid (fun j u (hj : (ws.map (Value.int .i64))[j]? = some u) => show w.cell? ⟨q, j, none⟩ = some u by
    obtain ⟨hl, rfl⟩ := List.getElem?_eq_some_iff.1 hj
    exact h.cell hl)
  clear h
  have hsn : ∀ (a : Addr) (l c : Nat) (w : World), (binOp .eql 46 (.slice (some a) l c) (.slice none 0 0)).run Tryz.prog w = .ok (.bool false) w := fun _ _ _ _ => by kernel_rfl
  by_cases h1 : 1 ≤ ws.length
  · go_enter Tryz.func131, Tryz.ntmps131
    go_wp2_with (at_builtin; refine wpList_append_grows _ rfl (.tmp 5) (.tmp 6) 46 rfl 3 i0 (.int .i64 0) 1 8 Tryz.underlying46 hi hz0 hz1 hz2 rfl (by decide) _ 0 0 [] rfl (by intro h; exact ⟨rfl, rfl⟩) rfl (by intro _ _ j u hj; simp at hj) ⟨q, 0, none⟩ ws.length cap (ws.map (.int .i64)) rfl (by simp) ?c1 (ints_oneCell _ _) (by omega) (by unfold maxLen; omega) (by omega) ?_; rotate_right; intro v1 w1 hown hgrow; have HX := Lib.hid (And.intro hown hgrow); clear hown hgrow)
    case c1 =>
      intro j u hj
      have h0 := HC.out j u hj
      rw [Addr.add_lit, Nat.zero_add]
      exact (World.cell?_of_block (a := ⟨q, j, none⟩) (Below.heap_alloc _ _ _ hq)).trans h0
    go_ret
    obtain ⟨hown, hgrow⟩ := HX.out
    simp only [Nat.zero_add, List.nil_append] at hown
    obtain ⟨g, cap', rfl, hg, hr, _⟩ := RowAt.of_owns_some hown (by omega)
    exact ⟨g, cap', rfl, Touch.grown ((Touch.refl nob w).alloc _) hgrow (fun _ h => by cases h), by rw [World.size_alloc] at hg; omega, hr⟩
  · obtain rfl : ws = [] := by cases ws <;> simp_all
    go_enter Tryz.func131, Tryz.ntmps131
    go_wp2_with fail
    go_ret
    exact ⟨w.heap.size, 0, rfl, (Touch.refl nob w).alloc _, Nat.le_refl _, ⟨#[], World.alloc_heap_new w _, rfl, Nat.le_refl _, rfl⟩⟩
theorem blk_Assign_arg (k : Int) (_ : BlkAt w p q cap n c ks) (hk : isCls k = false) :
    Calls Tryz.prog 85 #[.pointer (some ⟨p, 0, none⟩), .int .i64 k] w fun e w' => e = .returned (.tuple #[.int .i64 0, .int .i64 1]) ∧ w = w' := by
  go_enter Tryz.func85, Tryz.ntmps85
  go_wp2_with (go_at_call 118; fail)
  refine (class_Is k w).mono ?_
  rintro e w' ⟨rfl, rfl⟩
  rw [hk]
  go_wp2
  go_ret2
  exact ⟨rfl, rfl⟩
theorem blk_Assign_full (k : Int) (h : BlkAt w p q cap n c ks) (hk : isCls k = true) (hf : ks.length = n) :
    Calls Tryz.prog 85 #[.pointer (some ⟨p, 0, none⟩), .int .i64 k] w fun e w' => e = .returned (.tuple #[.int .i64 0, .int .i64 10]) ∧ Touch nob w w' := by
  obtain ⟨⟨d0, d1, d2, d3⟩, d4, d5, d6, d7⟩ := box8 h.box
  have hx := slices_Index (q := q) (w := w) (kint ks n) cap 0 n h.row (by rw [kint_len h.le]; exact h.n4.2) (by rw [kint_len h.le]; exact Nat.le_refl _) (fun i hi => by
    rw [kint_lt (by omega)]
    have := (isCls_iff.1 (h.cls i (by omega))).1
    omega) (fun hh => by rw [kint_len h.le] at hh; omega)
  rw [kint_len h.le, if_neg (Nat.lt_irrefl n)] at hx
  have HX := Lib.hid hx
  clear h hx d0 d1 d2 d3 d4 d5 d6
  go_enter Tryz.func85, Tryz.ntmps85
  go_wp2_with (go_at_call 118; fail)
  refine (class_Is k w).mono ?_
  rintro e w' ⟨rfl, rfl⟩
  rw [hk]
  go_wp2_with (go_at_call 120; fail)
  refine HX.out.mono ?_
  rintro e w' ⟨rfl, hT⟩
  have HT := Lib.hid hT
  clear hT
  go_wp2
  go_ret2
  exact ⟨rfl, HT.out⟩
theorem blk_Assign_ok (k : Int) (h : BlkAt w p q cap n c ks) (hk : isCls k = true) (hf : ks.length < n) :
    Calls Tryz.prog 85 #[.pointer (some ⟨p, 0, none⟩), .int .i64 k] w fun e w' => e = .returned (.tuple #[.int .i64 ks.length, .int .i64 0]) ∧ Touch (fun j => j = q) w w' ∧ BlkAt w' p q cap n c (ks ++ [k]) := by
  obtain ⟨⟨d0, d1, d2, d3⟩, d4, d5, d6, d7⟩ := box8 h.box
  have hx := slices_Index (q := q) (w := w) (kint ks n) cap 0 ks.length h.row (by rw [kint_len h.le]; exact h.n4.2) (by rw [kint_len h.le]; exact h.le) (fun i hi => by
    rw [kint_lt hi]
    have := (isCls_iff.1 (h.cls i hi)).1
    omega) (fun _ => kint_ge (Nat.le_refl _))
  rw [kint_len h.le, if_pos hf] at hx
  have HX := Lib.hid hx
  have H := Lib.hid h
  have hn4 := h.n4.2
  obtain ⟨m, hm⟩ : ∃ m, ks.length = m := ⟨_, rfl⟩
  rw [hm] at hf HX ⊢
  have HM := Lib.hid hm
  have hb : (m : Int) < (n : Int) := by omega
  obtain ⟨k0, k1⟩ := isCls_iff.1 hk
  clear h hx d0 d1 d2 d3 d4 d5 d6 hm
  go_enter Tryz.func85, Tryz.ntmps85
  go_wp2_with (go_at_call 118; fail)
  refine (class_Is k w).mono ?_
  rintro e w' ⟨rfl, rfl⟩
  rw [hk]
  go_wp2_with (go_at_call 120; fail)
  refine HX.out.mono ?_
  rintro e w1 ⟨rfl, hT⟩
  have h1 := H.out.old hT
  obtain ⟨⟨_, _, _, _⟩, _, _, _, e7⟩ := box8 h1.box
  have dq := int_cell h1.row (i := m) (by rw [kint_len H.out.le]; omega)
  have fq := h1.row.free m
  have H1 := Lib.hid (And.intro hT h1)
  clear hT h1 d7
  go_wp2
  go_ret2
  obtain ⟨hT, h1⟩ := H1.out
  refine ⟨rfl, Touch.setCell (S := fun j => j = q) (hT.mono (fun _ _ x => x.elim)) (.inl rfl) _, ⟨(set_other _ h1.ne).trans h1.box, ?_, h1.ok, h1.hn, by rw [List.length_append, HM.out]; exact hf, fun j hj => ?_⟩⟩
  · rw [kint_snoc (by rw [HM.out]; exact hf), HM.out, List.map_set]
    exact h1.row.set _ _
  · rw [List.length_append] at hj
    simp only [List.length_cons, List.length_nil, Nat.zero_add] at hj
    by_cases hjm : j < ks.length
    · rw [getD_append_left hjm]; exact h1.cls j hjm
    · rw [show j = ks.length by omega, getD_snoc]; exact hk
theorem blk_Class_no (b : Int) (h : BlkAt w p q cap n c ks) (hb : b < 0 ∨ (ks.length : Int) ≤ b) :
    Calls Tryz.prog 116 #[.pointer (some ⟨p, 0, none⟩), .int .i64 b] w fun e w' => e = .returned (.tuple #[.int .i64 0, .bool false]) ∧ w = w' := by
  obtain ⟨⟨d0, d1, d2, d3⟩, d4, d5, d6, d7⟩ := box8 h.box
  have hn4 := h.n4.2
  by_cases hb0 : b < 0
  · clear h d0 d1 d2 d3 d4 d5 d6
    go_enter Tryz.func116, Tryz.ntmps116
    go_wp2
    go_ret2
    exact ⟨rfl, rfl⟩
  · obtain ⟨j, rfl⟩ := Int.eq_ofNat_of_zero_le (show 0 ≤ b by omega)
    by_cases hj : j < n
    · have dq := int_cell h.row (i := j) (by rw [kint_len h.le]; exact hj)
      rw [kint_ge (by omega)] at dq
      have hbi : (j : Int) < (n : Int) := by omega
      clear h d0 d1 d2 d3 d4 d5 d6 hb hb0
      go_enter Tryz.func116, Tryz.ntmps116
      go_wp2
      go_ret2
      exact ⟨rfl, rfl⟩
    · have hbi : (n : Int) ≤ (j : Int) := by omega
      clear h d0 d1 d2 d3 d4 d5 d6 hb hb0
      go_enter Tryz.func116, Tryz.ntmps116
      go_wp2
      go_ret2
      exact ⟨rfl, rfl⟩
set_option maxHeartbeats 800000 in
theorem blk_Copy (h : BlkAt w p q cap n c ks) :
    Calls Tryz.prog 98 #[.pointer (some ⟨p, 0, none⟩)] w fun e w' => ∃ p' g cap', e = .returned (.pointer (some ⟨p', 0, none⟩)) ∧ Touch nob w w' ∧ w.heap.size ≤ p' ∧ w.heap.size ≤ g ∧ BlkAt w' p' g cap' n c ks := by
  obtain ⟨⟨d0, d1, d2, d3⟩, d4, d5, d6, d7⟩ := box8 h.box
  have hx := fun w' (ht : Touch nob w w') => clone_int q cap (kint ks n) w' ((h.old ht).row) (by rw [kint_len h.le]; have := h.n4.2; omega)
  rw [kint_len h.le] at hx
  have HH := Lib.hid (fun w' (ht : Touch nob w w') => And.intro (h.old ht) (hx w' ht))
  have HC := Lib.hid (fun w' (ht : Touch nob w w') => show Touch nob w w' ∧ w'.cell? ⟨p, 0, none⟩ = some (.int .i64 c.c0) ∧ w'.cell? ⟨p, 1, none⟩ = some (.int .i64 c.c1) ∧ w'.cell? ⟨p, 2, none⟩ = some (.int .i64 c.c2) ∧ w'.cell? ⟨p, 3, none⟩ = some (.int .i64 c.c3) ∧ w'.cell? ⟨p, 4, none⟩ = some (.int .i64 c.c4) ∧ w'.cell? ⟨p, 5, none⟩ = some (.int .i64 c.c5) ∧ w'.cell? ⟨p, 6, none⟩ = some (.int .i64 c.c6) ∧ w'.cell? ⟨p, 7, none⟩ = some (.slice (some ⟨q, 0, none⟩) n cap) from
    have hb := box8 (h.old ht).box
    ⟨ht, hb.1.1, hb.1.2.1, hb.1.2.2.1, hb.1.2.2.2, hb.2.1, hb.2.2.1, hb.2.2.2.1, hb.2.2.2.2⟩)
  clear h hx
  go_enter Tryz.func98, Tryz.ntmps98
  go_wp2_with fail
  go_region_held3 (fun w' => Touch nob w w' ∧ w'.cell? ⟨p, 0, none⟩ = some (.int .i64 c.c0) ∧ w'.cell? ⟨p, 1, none⟩ = some (.int .i64 c.c1) ∧ w'.cell? ⟨p, 2, none⟩ = some (.int .i64 c.c2) ∧ w'.cell? ⟨p, 3, none⟩ = some (.int .i64 c.c3) ∧ w'.cell? ⟨p, 4, none⟩ = some (.int .i64 c.c4) ∧ w'.cell? ⟨p, 5, none⟩ = some (.int .i64 c.c5) ∧ w'.cell? ⟨p, 6, none⟩ = some (.int .i64 c.c6) ∧ w'.cell? ⟨p, 7, none⟩ = some (.slice (some ⟨q, 0, none⟩) n cap)) (first | exact HC.out _ (by first | assumption | (repeat (first | with_reducible exact Touch.refl _ _ | with_reducible assumption | with_reducible apply Touch.alloc | with_reducible apply Touch.drewN | with_reducible apply Touch.drew | with_reducible refine Touch.setCell ?_ (.inr (by first | omega | (simp; done) | (simp; omega))) _)))) (first | (go_at_call 131; refine ((HH.out _ (by (repeat (first | with_reducible exact Touch.refl _ _ | with_reducible assumption | with_reducible apply Touch.alloc | with_reducible apply Touch.drewN | with_reducible apply Touch.drew | with_reducible refine Touch.setCell ?_ (.inr (by first | omega | (simp; done) | (simp; omega))) _)))).2).mono ?_; rintro e w1 ⟨g, cap', rfl, h1, h2, h3⟩; have hT1 := Touch.trans (S := nob) (show Touch nob w _ by (repeat (first | with_reducible exact Touch.refl _ _ | with_reducible assumption | with_reducible apply Touch.alloc | with_reducible apply Touch.drewN | with_reducible apply Touch.drew | with_reducible refine Touch.setCell ?_ (.inr (by first | omega | (simp; done) | (simp; omega))) _))) h1))
  all_goals
    go_wp2
    go_ret
    have hS := (HH.out w (Touch.refl _ _)).1
    exact ⟨w1.heap.size, g, cap', rfl, hT1.alloc _, h1.size, h2, ⟨World.alloc_heap_new w1 _, h3.touch ((Touch.refl nob _).alloc _) (fun x => x), hS.ok, hS.hn, hS.le, hS.cls⟩⟩
theorem blk_Copy_nil (w : World) : Calls Tryz.prog 98 #[.pointer none] w fun e w' => e = .returned (.pointer none) ∧ w = w' := by
  go_enter Tryz.func98, Tryz.ntmps98
  go_wp2
  go_ret
  exact ⟨rfl, rfl⟩
end Go.Proofs.YtflhjbmoncbomaaGreatDoor
