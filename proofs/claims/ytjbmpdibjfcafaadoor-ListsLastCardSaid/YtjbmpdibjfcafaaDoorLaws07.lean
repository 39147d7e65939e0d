/- The law BlockCopies, walked. Conditions: the tables of limits and of sizes read as laid. -/
import Derived.Test.YtjbmpdibjfcafaaDoorAwake7
import Derived.Test.YtjbmpdibjfcafaaDoorSeven
namespace Go.Proofs.YtjbmpdibjfcafaaDoor
open Go.RowKit

/-- Two tables apart from each other, and new. -/
structure TwoB (w wr : World) (p q cap p' q' cap' n : Nat) (c : Cf) (ks us : List Int) : Prop where
  touch : Touch nob w wr
  hp : w.heap.size ≤ p
  hq : w.heap.size ≤ q
  apart : q ≠ p' ∧ q ≠ q'
  left : BlkAt wr p q cap n c ks
  right : BlkAt wr p' q' cap' n c us
variable {w wr : World} {p q cap p' q' cap' n : Nat} {c : Cf} {ks us : List Int}
theorem TwoB.step {w' : World} (h : TwoB w wr p q cap p' q' cap' n c ks us) (ht : Touch nob wr w') : TwoB w w' p q cap p' q' cap' n c ks us :=
  ⟨h.touch.trans ht, h.hp, h.hq, h.apart, h.left.old ht, h.right.old ht⟩
theorem twoB_Assign (k : Int) (h : TwoB w wr p q cap p' q' cap' n c ks us) (hk : isCls k = true) :
    Calls Tryd.prog 33 #[.pointer (some ⟨p, 0, none⟩), .int .i64 k] wr fun e w' => ∃ a b ks', e = .returned (.tuple #[.int .i64 a, .int .i64 b]) ∧ TwoB w w' p q cap p' q' cap' n c ks' us := by
  by_cases hf : ks.length < n
  · exact (blk_Assign_ok k h.left hk hf).mono fun _ _ ⟨g1, g2, g3⟩ => ⟨_, _, _, g1, h.touch.step g2 (fun i hi => .inr (by rw [hi]; exact h.hq)), h.hp, h.hq, h.apart, g3, h.right.touch g2 h.apart.1.symm h.apart.2.symm⟩
  · exact (blk_Assign_full k h.left hk (by have := h.left.le; omega)).mono fun _ _ ⟨g1, g2⟩ => ⟨_, _, _, g1, h.step g2⟩
theorem cnt_ge (L : Nat) : ∀ n, cnt (fun j : Nat => decide (L ≤ j)) n = n - L
  | 0 => by simp [cnt]
  | n + 1 => by
    have := cnt_ge L n
    show cnt _ n + (decide (L ≤ n)).toNat = _
    rw [this]
    by_cases h : L ≤ n
    · simp [h]; omega
    · simp [h]; omega
theorem little_n (a0 a1 a2 a3 a4 a5 a6 : Int) : ∃ n : Nat, (n : Int) = (little ⟨a0, a1, a2, a3, a4, a5, a6⟩).c0 ∧ 1 ≤ n ∧ n ≤ 4 := by
  simp only [little]
  exact ⟨(1 + a0 % 4).toNat, by omega, by omega, by omega⟩

set_option maxRecDepth 20000 in
set_option maxHeartbeats 8000000 in
theorem law_BlockCopies (a0 : Int) (_ : (Lit.int .i64 a0).wf = true) (a1 : Int) (_ : (Lit.int .i64 a1).wf = true) (a2 : Int) (_ : (Lit.int .i64 a2).wf = true) (a3 : Int) (_ : (Lit.int .i64 a3).wf = true) (a4 : Int) (_ : (Lit.int .i64 a4).wf = true) (a5 : Int) (_ : (Lit.int .i64 a5).wf = true) (a6 : Int) (_ : (Lit.int .i64 a6).wf = true) (k : Int) (hk : (Lit.int .u8 k).wf = true) (st : Int) (hst : (Lit.int .u8 st).wf = true) (w : World) (hLim : Limits w) (hS : Sizes w) :
    Calls Tryd.prog 6 #[CfgV a0 a1 a2 a3 a4 a5 a6, .int .u8 k, .int .u8 st] w fun e w' => e = .returned (.bool true) ∧ Below w.heap.size w w' := by
  obtain ⟨k0, k1⟩ := bounds_u8 hk
  obtain ⟨t0, t1⟩ := bounds_u8 hst
  obtain ⟨st, rfl⟩ := Int.eq_ofNat_of_zero_le t0
  have HL := Lib.hid (Laid.mk hLim hS)
  clear hk hst t0 hLim hS
  obtain ⟨n, hn, hn1, hn4⟩ := little_n a0 a1 a2 a3 a4 a5 a6
  obtain ⟨c, hc⟩ : ∃ c, little ⟨a0, a1, a2, a3, a4, a5, a6⟩ = c := ⟨_, rfl⟩
  have hok : c.ok = true := by rw [← hc]; exact little_ok _
  have hlit := ref02_Little ⟨a0, a1, a2, a3, a4, a5, a6⟩
  rw [hc] at hn hlit
  have HC := Lib.hid (And.intro hn (And.intro hok hlit))
  clear hn hok hlit hc
  go_enter Tryd.func6, Tryd.ntmps6
  go_wp2_with fail
  obtain ⟨W, hW⟩ : ∃ W, W = w.alloc (Obj.cells (CfgRow a0 a1 a2 a3 a4 a5 a6) 49) := ⟨_, rfl⟩
  have hT : Touch nob w W := by rw [hW]; repeat (first | with_reducible exact Touch.refl _ _ | with_reducible assumption | with_reducible apply Touch.alloc | with_reducible apply Touch.drewN | with_reducible apply Touch.drew | with_reducible refine Touch.setCell ?_ (.inr (by first | omega | (simp; done) | (simp; omega))) _)
  have hbx : W.heap[w.heap.size]? = some (Obj.cells (CfgRow a0 a1 a2 a3 a4 a5 a6) 49) := by rw [hW]; exact World.alloc_heap_new w _
  obtain ⟨b0, hb0⟩ : ∃ b, b = w.heap.size := ⟨_, rfl⟩
  rw [← hW, ← hb0]
  rw [← hb0] at hbx
  refine (HC.out.2.2 W).mono ?_
  rintro e w1 ⟨rfl, hT1⟩
  have hb1 := blk_touch hbx hT1 (fun x => x)
  obtain ⟨y0, y1, y2, y3, y4, y5, y6⟩ := cfg_box hb1 (Touch.refl _ _)
  have f0 : ∀ j, w1.frozen? ⟨b0, j, none⟩ = false := fun j => by simp [World.frozen?, hb1]
  have g0 := f0 0; have g1 := f0 1; have g2 := f0 2; have g3 := f0 3; have g4 := f0 4; have g5 := f0 5; have g6 := f0 6
  obtain ⟨W3, hW3⟩ : ∃ W3, W3 = set7 w1 b0 (.int .i64 c.c0) (.int .i64 c.c1) (.int .i64 c.c2) (.int .i64 c.c3) (.int .i64 c.c4) (.int .i64 c.c5) (.int .i64 c.c6) := ⟨_, rfl⟩
  have hc3 : W3.heap[b0]? = some (Obj.cells (CfgRow c.c0 c.c1 c.c2 c.c3 c.c4 c.c5 c.c6) 49) := by rw [hW3]; exact set7_at _ _ _ _ _ _ _ _ hb1
  have hT3 : Touch nob w W3 := by rw [hW3]; exact set7_touch _ _ _ _ _ _ _ (by omega) (hT.trans hT1)
  have H3 := Lib.hid (And.intro hT3 hc3)
  clear hT hbx hT1 hb1 f0 hc3 hT3 hW hb0
  go_wp2_with fail
  simp only [set7] at hW3
  rw [← hW3]
  clear hW3 y0 y1 y2 y3 y4 y5 y6 g0 g1 g2 g3 g4 g5 g6
  have HB := Lib.hid (fun wr (ht : Touch nob W3 wr) => show Touch nob w wr ∧ wr.cell? ⟨b0, 0, none⟩ = some (.int .i64 n) from ⟨H3.out.1.trans ht, by rw [HC.out.1]; exact (cfg_box H3.out.2 ht).1⟩)
  have HL3 := Lib.hid (HL.out.old H3.out.1)
  have awake : ∀ wr, Touch nob W3 wr → Calls Tryd.prog 37 #[] wr fun e w' => e = .returned (.bool true) ∧ Touch nob W3 w' := fun wr ht =>
    (law07_awake wr (HL3.out.old ht)).mono fun _ _ g => ⟨g.1, ht.trans g.2⟩
  have HW := Lib.hid awake
  clear awake
  refine (oneb_New c W3 W3 (Touch.refl _ _) HL3.out HC.out.2.1 n HC.out.1).mono ?_
  rintro e w4 ⟨p, q, rfl, h4⟩
  have H4 := Lib.hid h4
  clear h4
  obtain ⟨kk, hkk⟩ : ∃ m : Nat, k.tmod 4 = m := ⟨(k.tmod 4).toNat, by have := Int.tmod_nonneg 4 k0; omega⟩
  have hk4 : kk < 4 := by have := Int.tmod_lt_of_pos k (show (0 : Int) < 4 by omega); omega
  obtain ⟨kj, hkj⟩ : ∃ m : Nat, k / 4 % 4 = m := ⟨(k / 4 % 4).toNat, by omega⟩
  have hj4 : kj < 4 := by omega
  have HK := Lib.hid (And.intro (isCls_yes (k := (kk : Int)) (by omega) (by omega)) (isCls_yes (k := (kj : Int)) (by omega) (by omega)))
  go_wp2_with (go_at_call 33; fail)
  refine (oneb_Assign kk H4.out HK.out.1 (by simp; omega)).mono ?_
  rintro e w5 ⟨rfl, h5⟩
  have H5 := Lib.hid h5
  clear h5 H4
  go_wp2_with (go_at_call 34; fail)
  refine (blk_Copy H5.out.blk).mono ?_
  rintro e w6 ⟨p', q', cap', rfl, hT6, hp6, hq6, hS6⟩
  have H6 : Hid (TwoB W3 w6 p q n p' q' cap' n c ([] ++ [(kk : Int)]) ([] ++ [(kk : Int)])) := by
    have h1 := blk_lt H5.out.blk.box
    have h2 := H5.out.blk.row.lt
    exact ⟨H5.out.touch.trans hT6, H5.out.hp, H5.out.hq, ⟨by omega, by omega⟩, H5.out.blk.old hT6, hS6⟩
  clear hT6 hp6 hq6 hS6 H5
  obtain ⟨L, hL⟩ : ∃ L, allSl c ([] ++ [(kk : Int)]) n = L := ⟨_, rfl⟩
  have hLl : L.length ≤ 512 := by rw [← hL]; have := allSl_le (c := c) (ks := [] ++ [(kk : Int)]) n; omega
  have HLL := Lib.hid hL
  clear hL
  go_wp2_with (go_at_call 35; fail)
  refine (law07_list 10000 H6.out.right (HL3.out.old H6.out.touch)).mono ?_
  rintro e w7 ⟨v7, rfl, hT7, hI7⟩
  rw [HLL.out, List.take_of_length_le (by omega)] at hI7
  obtain ⟨ao7, cap7, hv7⟩ := hI7.shape
  obtain ⟨z, hz⟩ : ∃ z, L.length = z := ⟨_, rfl⟩
  rw [hz] at hv7 hLl
  subst hv7
  have HZ := Lib.hid hz
  have H7 := Lib.hid (H6.out.step hT7)
  clear hT7 hI7 hz H6
  go_wp2_with (go_at_call 33; fail)
  rw [hkj]
  refine (twoB_Assign kj H7.out HK.out.2).mono ?_
  rintro e w8 ⟨ra, rb, ks8, rfl, h8⟩
  have H8 := Lib.hid h8
  clear h8 H7
  obtain ⟨mn, hmn⟩ : ∃ mn, min st z = mn := ⟨_, rfl⟩
  have hmm : mn = if st < z then st else z := by rw [← hmn]; split <;> omega
  obtain ⟨nn, hnn⟩ : ∃ nn : Nat, n - 1 = nn := ⟨_, rfl⟩
  have hnn' : ((nn : Int) == (n : Int) - 1) = true := by simp; omega
  have l9 : ∀ wr, TwoB W3 wr p q n p' q' cap' n c ks8 ([] ++ [(kk : Int)]) → Calls Tryd.prog 35 #[.pointer (some ⟨p', 0, none⟩), .int .i64 st] wr fun e w' => ∃ ao cp, e = .returned (.slice ao mn cp) ∧ TwoB W3 w' p q n p' q' cap' n c ks8 ([] ++ [(kk : Int)]) := fun wr h =>
    (law07_list st h.right (HL3.out.old h.touch)).mono fun e w' ⟨v, g1, g2, g3⟩ => by
      rw [HLL.out] at g3
      obtain ⟨ao, cp, hv⟩ := g3.shape
      rw [List.length_take, HZ.out, hmn] at hv
      exact ⟨ao, cp, by rw [g1, hv], h.step g2⟩
  have l10 : ∀ wr, TwoB W3 wr p q n p' q' cap' n c ks8 ([] ++ [(kk : Int)]) → Calls Tryd.prog 36 #[.pointer (some ⟨p', 0, none⟩)] wr fun e w' => ∃ ao cp, e = .returned (.slice ao nn cp) ∧ TwoB W3 w' p q n p' q' cap' n c ks8 ([] ++ [(kk : Int)]) := fun wr h =>
    (blk_Unassigned h.right).mono fun e w' ⟨v, g1, g2, g3⟩ => by
      obtain ⟨ao, cp, hv⟩ := g3.shape
      have hnn2 : n - (([] : List Int) ++ [(kk : Int)]).length = nn := by rw [← hnn]; rfl
      rw [List.length_map, elems_len, cnt_ge, hnn2] at hv
      exact ⟨ao, cp, by rw [g1, hv], h.step g2⟩
  have l11 : ∀ wr, TwoB W3 wr p q n p' q' cap' n c ks8 ([] ++ [(kk : Int)]) → Calls Tryd.prog 35 #[.pointer (some ⟨p', 0, none⟩), .int .i64 10000] wr fun e w' => ∃ ao cp, e = .returned (.slice ao z cp) ∧ TwoB W3 w' p q n p' q' cap' n c ks8 ([] ++ [(kk : Int)]) := fun wr h =>
    (law07_list 10000 h.right (HL3.out.old h.touch)).mono fun e w' ⟨v, g1, g2, g3⟩ => by
      rw [HLL.out, List.take_of_length_le (by rw [HZ.out]; omega)] at g3
      obtain ⟨ao, cp, hv⟩ := g3.shape
      rw [HZ.out] at hv
      exact ⟨ao, cp, by rw [g1, hv], h.step g2⟩
  have HLS := Lib.hid (And.intro l9 (And.intro l10 l11))
  have hT8 := H8.out.touch
  clear l9 l10 l11 hmn hnn hk4 hj4 hkj
  have hwst : IntKind.i64.wrap (st : Int) = (st : Int) := by rw [IntKind.wrap_i64]; omega
  have hwn : IntKind.i64.wrap ((n : Int) - 1) = (n : Int) - 1 := by rw [IntKind.wrap_i64]; omega
  by_cases hsz : st < z
  · rw [if_pos hsz] at hmm
    subst hmm
    have hszi : ((mn : Int) < (z : Int)) = True := by simp; omega
    clear hsz
    go_wp2_with fail
    go_region_held3 (fun w' => w'.cell? ⟨b0, 0, none⟩ = some (.int .i64 n)) (first | exact (HB.out _ (by first | assumption | exact hT8.drew)).2) (first
      | (go_at_call 35; refine (HLS.out.2.2 _ H10.out).mono ?_; rintro e w11 ⟨ao11, cp11, rfl, h11⟩; have hT11 := h11.touch; have H11 := Lib.hid h11; clear h11)
      | (go_at_call 35; refine (HLS.out.1 _ (H8.out.step (Touch.drew (Touch.refl _ _)))).mono ?_; rintro e w9 ⟨ao9, cp9, rfl, h9⟩; have hT9 := h9.touch; have H9 := Lib.hid h9; clear h9)
      | (go_at_call 36; refine (HLS.out.2.1 _ H9.out).mono ?_; rintro e w10 ⟨ao10, cp10, rfl, h10⟩; have hT10 := h10.touch; have H10 := Lib.hid h10; clear h10)
      | (go_at_call 37; refine (HW.out _ H11.out.touch).mono ?_; rintro e w12 ⟨rfl, hT12⟩))
    all_goals
      go_wp2
      go_ret
      exact ⟨rfl, (H3.out.1.trans hT12).below⟩
  · rw [if_neg hsz] at hmm
    subst hmm
    have hszi : ((st : Int) < (mn : Int)) = False := by simp; omega
    clear hsz
    go_wp2_with fail
    go_region_held3 (fun w' => w'.cell? ⟨b0, 0, none⟩ = some (.int .i64 n)) (first | exact (HB.out _ (by first | assumption | exact hT8.drew)).2) (first
      | (go_at_call 35; refine (HLS.out.2.2 _ H10.out).mono ?_; rintro e w11 ⟨ao11, cp11, rfl, h11⟩; have hT11 := h11.touch; have H11 := Lib.hid h11; clear h11)
      | (go_at_call 35; refine (HLS.out.1 _ (H8.out.step (Touch.drew (Touch.refl _ _)))).mono ?_; rintro e w9 ⟨ao9, cp9, rfl, h9⟩; have hT9 := h9.touch; have H9 := Lib.hid h9; clear h9)
      | (go_at_call 36; refine (HLS.out.2.1 _ H9.out).mono ?_; rintro e w10 ⟨ao10, cp10, rfl, h10⟩; have hT10 := h10.touch; have H10 := Lib.hid h10; clear h10)
      | (go_at_call 37; refine (HW.out _ H11.out.touch).mono ?_; rintro e w12 ⟨rfl, hT12⟩))
    all_goals
      go_wp2
      go_ret
      exact ⟨rfl, (H3.out.1.trans hT12).below⟩
end Go.Proofs.YtjbmpdibjfcafaaDoor
