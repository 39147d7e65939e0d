/- Tables of blocks: the law's example, and the document's slots, walked. Conditions: the tables of limits and of sizes read as laid. -/
import Derived.Test.YtjbmpdibjfcafaaDoorBlkList
import Derived.Test.YtjbmpdibjfcafaaDoorLittle
import Derived.Test.YtjbmpdibjfcafaaDoorRef04
namespace Go.Proofs.YtjbmpdibjfcafaaDoor
open Go.RowKit

/-- A table that is new. -/
structure OneB (w wr : World) (p q cap n : Nat) (c : Cf) (ks : List Int) : Prop where
  touch : Touch nob w wr
  hp : w.heap.size ≤ p
  hq : w.heap.size ≤ q
  blk : BlkAt wr p q cap n c ks
variable {w wr : World} {p q cap n : Nat} {c : Cf} {ks : List Int}
theorem OneB.step {w' : World} (h : OneB w wr p q cap n c ks) (ht : Touch nob wr w') : OneB w w' p q cap n c ks := ⟨h.touch.trans ht, h.hp, h.hq, h.blk.old ht⟩
theorem oneb_New (c : Cf) (w wr : World) (hT : Touch nob w wr) (hL : Laid w) (hc : c.ok = true) (n : Nat) (hn : (n : Int) = c.c0) :
    Calls Tryd.prog 32 #[c.V] wr fun e w' => ∃ p q, e = .returned (.tuple #[.pointer (some ⟨p, 0, none⟩), .int .i64 0]) ∧ OneB w w' p q n n c [] :=
  (block_New_ok c wr (hL.old hT).lim hc n hn).mono fun _ _ ⟨p, q, h1, h2, h3, h4, h5⟩ => ⟨p, q, h1, hT.trans h2, Nat.le_trans hT.size h3, Nat.le_trans hT.size h4, h5⟩
theorem oneb_Assign (k : Int) (h : OneB w wr p q cap n c ks) (hk : isCls k = true) (hf : ks.length < n) :
    Calls Tryd.prog 33 #[.pointer (some ⟨p, 0, none⟩), .int .i64 k] wr fun e w' => e = .returned (.tuple #[.int .i64 ks.length, .int .i64 0]) ∧ OneB w w' p q cap n c (ks ++ [k]) :=
  (blk_Assign_ok k h.blk hk hf).mono fun _ _ ⟨g1, g2, g3⟩ => ⟨g1, h.touch.step g2 (fun i hi => .inr (by rw [hi]; exact h.hq)), h.hp, h.hq, g3⟩
def awakeC : Cf := ⟨2, 16, 1, 1, 0, 1, 1⟩
set_option maxHeartbeats 1000000 in
theorem law07_awake (w : World) (hL : Laid w) : Calls Tryd.prog 37 #[] w fun e w' => e = .returned (.bool true) ∧ Touch nob w w' := by
  have HL := Lib.hid hL
  clear hL
  go_enter Tryd.func37, Tryd.ntmps37
  go_wp2_with (go_at_call 32; fail)
  refine (oneb_New awakeC w w (Touch.refl _ _) HL.out (by decide) 2 rfl).mono ?_
  rintro e w1 ⟨p, q, rfl, h1⟩
  have H1 := Lib.hid h1
  clear h1
  go_wp2_with (go_at_call 33; fail)
  refine (oneb_Assign 1 H1.out (by decide) (by decide)).mono ?_
  rintro e w2 ⟨rfl, h2⟩
  have H2 := Lib.hid h2
  clear h2
  go_wp2_with (go_at_call 33; fail)
  refine (oneb_Assign 1 H2.out (by decide) (by decide)).mono ?_
  rintro e w3 ⟨rfl, h3⟩
  have H3 := Lib.hid h3
  clear h3
  go_wp2_with (go_at_call 33; fail)
  refine (blk_Assign_full 0 H3.out.blk (by decide) (by decide)).mono ?_
  rintro e w4 ⟨rfl, hT4⟩
  have H4 := Lib.hid (H3.out.touch.trans hT4)
  clear hT4
  go_wp2
  go_ret
  exact ⟨rfl, H4.out⟩
set_option maxHeartbeats 1000000 in
theorem law07_slots (b k : Int) (hc : c.ok = true) (hk : isCls k = true) (b0 : 0 ≤ b) (b1 : b < c.c0) (w : World) :
    Calls Tryd.prog 46 #[c.V, .int .i64 b, .int .i64 k] w fun e w' => ∃ v, e = .returned v ∧ Touch nob w w' ∧ IntsIn w' v (sl c k b) := by
  obtain ⟨N, hN⟩ : ∃ N : Nat, perBlock c.c1 k = N := ⟨(perBlock c.c1 k).toNat, by have := (per_cls hc hk).1; omega⟩
  have hN128 : N ≤ 128 := by have := (per_cls hc hk).2; omega
  have hsl := sl_eq hc hk b0 b1
  rw [hN, show (N : Int).toNat = N by omega] at hsl
  rw [hsl]
  have hA : ∀ j : Nat, j < N → ifB (plOk c.c0 c.c1 c.c2 c.c3 c.c4 c.c5 c.c6 k b j 0) (plA c.c1 k b j 0) = plA c.c1 k b j 0 := fun j hj => by
    have z0 := clsSize_lo hk
    rw [plOk_iff.2 ⟨hc, hk, ⟨b0, b1⟩, ⟨(by omega : (0 : Int) ≤ j), (by omega : (j : Int) < perBlock c.c1 k)⟩, Int.le_refl 0, (by omega : (0 : Int) < clsSize k)⟩]
    rfl
  have HF := Lib.hid (And.intro hN hA)
  obtain ⟨W, hW⟩ : ∃ W, W = w.alloc (Obj.cells (CfgRow c.c0 c.c1 c.c2 c.c3 c.c4 c.c5 c.c6) 49) := ⟨_, rfl⟩
  have hT : Touch nob w W := by rw [hW]; repeat (first | with_reducible exact Touch.refl _ _ | with_reducible assumption | with_reducible apply Touch.alloc | with_reducible apply Touch.drewN | with_reducible apply Touch.drew | with_reducible refine Touch.setCell ?_ (.inr (by first | omega | (simp; done) | (simp; omega))) _)
  have hbx : W.heap[w.heap.size]? = some (Obj.cells (CfgRow c.c0 c.c1 c.c2 c.c3 c.c4 c.c5 c.c6) 49) := by rw [hW]; exact World.alloc_heap_new w _
  obtain ⟨i0, hi, hz0, hz1, hz2⟩ := info_parts info_int2
  have HC := Lib.hid (And.intro hT (And.intro (fun w' ht => cfg_box hbx (w' := w') ht) hW))
  clear hsl hA hN hc hk b0 b1 hT hbx hW
  go_enter Tryd.func46, Tryd.ntmps46
  go_wp2_with fail
  rw [← HC.out.2.2]
  go_loopw [7, 8] (fun v i wr => ∃ j : Nat, j ≤ N ∧ i = .int .i64 j ∧ Hid (Touch nob W wr) ∧ Hid (wr.ownsRow W.heap.size 3 1 v j (((List.range j).map fun (x : Nat) => plA c.c1 k b x 0).map (.int .i64)))) (fun _ i _ => N - (intOf i).toNat)
  case atStart => exact ⟨0, Nat.zero_le _, rfl, Touch.refl _ _, World.ownsRow_nil _ _ _ _⟩
  case round =>
    obtain ⟨j, hj, rfl, HTr, HOr⟩ := hrel
    obtain ⟨ao, capv, rfl⟩ := own_shape HOr.out
    obtain ⟨k0, k1, k2, k3, k4, k5, k6⟩ := HC.out.2.1 _ HTr.out
    go_wp2_with (go_at_call 80; fail)
    refine (ref03_Per c.c1 k wr).mono ?_
    rintro e w6 ⟨rfl, rfl⟩
    rw [HF.out.1]
    by_cases hjN : j < N
    · have hbj : (j : Int) < (N : Int) := by omega
      go_wp2_with (go_at_call 81; fail)
      refine (ref04_Of c.c0 c.c1 c.c2 c.c3 c.c4 c.c5 c.c6 k b j 0 wr).mono ?_
      rintro e w6 ⟨rfl, hb6⟩
      rw [HF.out.2 j hjN]
      have hT6 : Touch nob wr w6 := Touch.of_below hb6
      have HO6 : Hid (w6.ownsRow W.heap.size 3 1 (.slice ao j capv) j (((List.range j).map fun (x : Nat) => plA c.c1 k b x 0).map (.int .i64))) := owns_at HOr.out (fun g hg hl => hT6.block g hl (fun x => x))
      have HT6 := Lib.hid (HTr.out.trans hT6)
      have HS6 : Hid (W.heap.size ≤ w6.heap.size) := HT6.out.size
      have HSS : Hid (((List.range (j + 1)).map fun (x : Nat) => plA c.c1 k b x 0) = ((List.range j).map fun (x : Nat) => plA c.c1 k b x 0) ++ [plA c.c1 k b j 0]) := by show _ = _; rw [List.range_succ]; simp
      obtain ⟨a, ha⟩ : ∃ a, plA c.c1 k b j 0 = a := ⟨_, rfl⟩
      rw [ha] at HSS ⊢
      clear hb6 hT6 HOr HTr k0 k1 k2 k3 k4 k5 k6 ha
      go_wp2_with (at_builtin; refine wpList_append_own _ rfl _ _ 23 rfl W.heap.size 3 i0 (.int .i64 0) 1 8 Tryd.underlying23 hi hz0 hz1 hz2 rfl (by decide) _ j _ rfl (HO6.out.alloc _) ⟨w6.heap.size, 0, none⟩ 1 1 [.int .i64 a] rfl rfl (World.news_of_block (World.alloc_heap_new _ _)) (ints_oneCell _ [a]) (by unfold maxLen; omega) (by omega) (by have := HS6.out; simp; omega) ?_; intro v3 w7 hown hgrow _; have HW3 := Lib.hid (And.intro hown hgrow); clear hown hgrow)
      go_roundw
      case rel =>
        refine ⟨j + 1, by omega, by go_num, ?_, ?_⟩
        · exact Touch.grown (HT6.out.alloc _) HW3.out.2 (fun g hg => .inr (HO6.out.lt g hg).1)
        · show World.ownsRow _ _ _ _ _ _ _
          rw [HSS.out, List.map_append]
          exact HW3.out.1
      case measure => simp [intOf]; omega
    · obtain rfl : j = N := by omega
      go_wp2
      go_ret
      exact ⟨_, rfl, HC.out.1.trans HTr.out, ints_of_ownZ HOr.out⟩
end Go.Proofs.YtjbmpdibjfcafaaDoor
