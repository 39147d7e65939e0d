/- The law ListsNone, walked. Conditions: the tables of limits and of sizes read as laid. -/
import Derived.Test.YtjbmpdibjfcafaaDoorLL
import Derived.Test.YtjbmpdibjfcafaaDoorLaws07
namespace Go.Proofs.YtjbmpdibjfcafaaDoor
open Go.RowKit

variable {w : World} {c : Cf}
theorem Iter.weak {α : Type} {P : Program} {g : Nat} {lb : Array Value} {encs : α → Array Value} {Ab Ab' : Nat → (Nat → Prop) → World → World → Prop} {Kp : World → World → Prop} {xs : List α} {Pr Pr' : Nat → Prop} (h : Iter P g lb encs Ab Kp xs Pr w) (ha : ∀ n O A B, Ab n O A B → Ab' n O A B) (hp : ∀ b, Pr b → Pr' b) : Iter P g lb encs Ab' Kp xs Pr' w :=
  fun l J Jx W O h1 h2 h3 h4 h5 h6 h7 => h l J Jx W O h1 (fun pre O A B x y => h2 pre O A B x (ha _ _ _ _ y)) (fun pre O A B x y => h3 pre O A B x (ha _ _ _ _ y)) h4 h5 (fun b hb => h6 b (hp b hb)) h7
theorem law08_list_nil {pa qa ca : Nat} {ws : List Int} {lo st : Int} (most : Nat) (k : Int) (h : ArenaAt w pa qa ca ws lo st) :
    Calls Tryd.prog 55 #[.pointer none, .int .i64 k, .int .i64 most] w fun e w' => ∃ v, e = .returned v ∧ Touch (fun k => k = pa) w w' ∧ IntsIn w' v [] :=
  (llist_any most none k [] (by simp) ⟨blk_lt h.box, h.row.lt⟩ ⟨ca, lo, st, h⟩ (fun _ b _ hb hb' => (lall_nil b (b + 1) k hb hb').weak abL_T (fun _ x => x.elim))).mono fun _ _ ⟨v, g1, g2, _, g4⟩ => ⟨v, g1, g2, by simpa using g4⟩
theorem lists_Put_nil (a : Int) (w : World) :
    Calls Tryd.prog 53 #[.pointer none, .int .i64 a] w fun e w' => e = .returned (.int .i64 11) ∧ Touch nob w w' := by
  have hmf := hmkf
  go_enter Tryd.func53, Tryd.ntmps53
  go_wp2_with (go_at_call 85; fail)
  go_enter Tryd.func85, Tryd.ntmps85
  go_wp2
  go_ret
  exact ⟨rfl, by repeat (first | with_reducible exact Touch.refl _ _ | with_reducible assumption | with_reducible apply Touch.alloc | with_reducible apply Touch.drewN | with_reducible apply Touch.drew | with_reducible refine Touch.setCell ?_ (.inr (by first | omega | (simp; done) | (simp; omega))) _)⟩
theorem lists_New_len {pa qa ca pt qt ct n : Nat} {ws ks : List Int} {lo st : Int} (ha : ArenaAt w pa qa ca ws lo st) (ht : BlkAt w pt qt ct n c ks) (hl : (ws.length : Int) ≠ c.c0 * c.c1) (hL : Laid w) :
    Calls Tryd.prog 61 #[.pointer (some ⟨pa, 0, none⟩), .pointer (some ⟨pt, 0, none⟩)] w fun e w' => e = .returned (.tuple #[.pointer none, .int .i64 1]) ∧ Touch nob w w' := by
  obtain ⟨z, hz⟩ : ∃ z, ws.length = z := ⟨_, rfl⟩
  rw [hz] at hl
  obtain ⟨y, hy⟩ : ∃ y, c.c0 * c.c1 = y := ⟨_, rfl⟩
  rw [hy] at hl
  have H := Lib.hid (And.intro ha (And.intro ht (And.intro hL (And.intro hz hy))))
  clear ha ht hL hz hy
  go_enter Tryd.func61, Tryd.ntmps61
  go_wp2_with (go_at_call 44; fail)
  refine (blk_Config H.out.2.1).mono ?_
  rintro e w1 ⟨rfl, hT1⟩
  have HT1 := Lib.hid hT1
  clear hT1
  go_wp2_with (go_at_call 94; fail)
  refine (config_Words _ _ _ _ _ _ _ w1 (H.out.2.2.1.old HT1.out).lim).mono ?_
  rintro e w2 ⟨rfl, hb2⟩
  rw [show cfgOk c.c0 c.c1 c.c2 c.c3 c.c4 c.c5 c.c6 = true from H.out.2.1.ok, show ifOk true (cfgWords c.c0 c.c1) = y from H.out.2.2.2.2]
  have HT2 := Lib.hid (HT1.out.trans (Touch.of_below hb2))
  clear hb2
  go_wp2_with (go_at_call 95; fail)
  refine (arena_Len pa qa ca ws lo st w2 (H.out.1.touch HT2.out (fun x => x) (fun x => x))).mono ?_
  rintro e w3 ⟨rfl, rfl⟩
  rw [H.out.2.2.2.1]
  go_wp2
  go_ret2
  exact ⟨rfl, HT2.out⟩
theorem lists_New_noarena {pt qt ct n : Nat} {ks : List Int} (ht : BlkAt w pt qt ct n c ks) (hL : Laid w) :
    Calls Tryd.prog 61 #[.pointer none, .pointer (some ⟨pt, 0, none⟩)] w fun e w' => e = .returned (.tuple #[.pointer none, .int .i64 1]) ∧ Touch nob w w' := by
  obtain ⟨y, hy⟩ : ∃ y, c.c0 * c.c1 = y := ⟨_, rfl⟩
  have H := Lib.hid (And.intro ht (And.intro hL hy))
  clear ht hL hy
  go_enter Tryd.func61, Tryd.ntmps61
  go_wp2_with (go_at_call 44; fail)
  refine (blk_Config H.out.1).mono ?_
  rintro e w1 ⟨rfl, hT1⟩
  have HT1 := Lib.hid hT1
  clear hT1
  go_wp2_with (go_at_call 94; fail)
  refine (config_Words _ _ _ _ _ _ _ w1 (H.out.2.1.old HT1.out).lim).mono ?_
  rintro e w2 ⟨rfl, hb2⟩
  rw [show cfgOk c.c0 c.c1 c.c2 c.c3 c.c4 c.c5 c.c6 = true from H.out.1.ok, show ifOk true (cfgWords c.c0 c.c1) = y from H.out.2.2]
  have HT2 := Lib.hid (HT1.out.trans (Touch.of_below hb2))
  clear hb2
  go_wp2
  go_ret2
  exact ⟨rfl, HT2.out⟩
theorem lists_New_notable (a : Addr) (hL : Laid w) :
    Calls Tryd.prog 61 #[.pointer (some a), .pointer none] w fun e w' => e = .returned (.tuple #[.pointer none, .int .i64 1]) ∧ Touch nob w w' := by
  have H := Lib.hid hL
  clear hL
  go_enter Tryd.func61, Tryd.ntmps61
  go_wp2_with (go_at_call 44; fail)
  refine (blk_Config_nil w).mono ?_
  rintro e w1 ⟨rfl, hT1⟩
  have HT1 := Lib.hid hT1
  clear hT1
  go_wp2_with (go_at_call 94; fail)
  refine (config_Words 0 0 0 0 0 0 0 w1 (H.out.old HT1.out).lim).mono ?_
  rintro e w2 ⟨rfl, hb2⟩
  rw [show cfgOk 0 0 0 0 0 0 0 = false by decide, show ifOk false (cfgWords 0 0) = 0 from rfl]
  have HT2 := Lib.hid (HT1.out.trans (Touch.of_below hb2))
  clear hb2
  go_wp2
  go_ret2
  exact ⟨rfl, HT2.out⟩
set_option maxRecDepth 20000 in
set_option maxHeartbeats 8000000 in
theorem law_ListsNone (a0 : Int) (_ : (Lit.int .i64 a0).wf = true) (a1 : Int) (_ : (Lit.int .i64 a1).wf = true) (a2 : Int) (_ : (Lit.int .i64 a2).wf = true) (a3 : Int) (_ : (Lit.int .i64 a3).wf = true) (a4 : Int) (_ : (Lit.int .i64 a4).wf = true) (a5 : Int) (_ : (Lit.int .i64 a5).wf = true) (a6 : Int) (_ : (Lit.int .i64 a6).wf = true) (k : Int) (_ : (Lit.int .i64 k).wf = true) (st : Int) (hst : (Lit.int .u8 st).wf = true) (w : World) (hLim : Limits w) (hS : Sizes w) :
    Calls Tryd.prog 13 #[CfgV a0 a1 a2 a3 a4 a5 a6, .int .i64 k, .int .u8 st] w fun e w' => e = .returned (.bool true) ∧ Below w.heap.size w w' := by
  obtain ⟨t0, t1⟩ := bounds_u8 hst
  obtain ⟨s, rfl⟩ := Int.eq_ofNat_of_zero_le t0
  have hs : s < 256 := by omega
  clear hst t0 t1
  have HL := Lib.hid (Laid.mk hLim hS)
  clear hLim hS
  obtain ⟨n, hn, hn1, hn4⟩ := little_n a0 a1 a2 a3 a4 a5 a6
  obtain ⟨c, hc⟩ : ∃ c, little ⟨a0, a1, a2, a3, a4, a5, a6⟩ = c := ⟨_, rfl⟩
  have hok : c.ok = true := by rw [← hc]; exact little_ok _
  have hw36 : c.c1 ≤ 36 := by rw [← hc]; simp only [little]; omega
  have hlit := ref02_Little ⟨a0, a1, a2, a3, a4, a5, a6⟩
  rw [hc] at hn hlit
  have HC := Lib.hid (And.intro hn (And.intro hok hlit))
  clear hn hok hlit hc
  go_enter Tryd.func13, Tryd.ntmps13
  go_wp2_with fail
  obtain ⟨W, hW⟩ : ∃ W, W = w.alloc (Obj.cells (CfgRow a0 a1 a2 a3 a4 a5 a6) 49) := ⟨_, rfl⟩
  have hT : Touch nob w W := by rw [hW]; repeat (first | with_reducible exact Touch.refl _ _ | with_reducible assumption | with_reducible apply Touch.alloc | with_reducible apply Touch.drewN | with_reducible apply Touch.drew | with_reducible refine Touch.setCell ?_ (.inr (by first | omega | (simp; done) | (simp; omega))) _)
  have hbx : W.heap[w.heap.size]? = some (Obj.cells (CfgRow a0 a1 a2 a3 a4 a5 a6) 49) := by rw [hW]; exact World.alloc_heap_new w _
  obtain ⟨b0, hb0⟩ : ∃ b, b = w.heap.size := ⟨_, rfl⟩
  rw [← hW, ← hb0]
  rw [← hb0] at hbx
  refine (HC.out.2.2 W).mono ?_
  rintro e w1 ⟨rfl, hT1⟩
  have hb1 := blk_touch hbx hT1 (fun x => x)
  obtain ⟨y0, y1, y2, y3, y4, y5, y6⟩ := cfg_box hb1 (Touch.refl _ _)
  have f0 : ∀ j, w1.frozen? ⟨b0, j, none⟩ = false := fun j => by simp [World.frozen?, hb1]
  have g0 := f0 0; have g1 := f0 1; have g2 := f0 2; have g3 := f0 3; have g4 := f0 4; have g5 := f0 5; have g6 := f0 6
  obtain ⟨W3, hW3⟩ : ∃ W3, W3 = set7 w1 b0 (.int .i64 c.c0) (.int .i64 c.c1) (.int .i64 c.c2) (.int .i64 c.c3) (.int .i64 c.c4) (.int .i64 c.c5) (.int .i64 c.c6) := ⟨_, rfl⟩
  have hc3 : W3.heap[b0]? = some (Obj.cells (CfgRow c.c0 c.c1 c.c2 c.c3 c.c4 c.c5 c.c6) 49) := by rw [hW3]; exact set7_at _ _ _ _ _ _ _ _ hb1
  have hT3 : Touch nob w W3 := by rw [hW3]; exact set7_touch _ _ _ _ _ _ _ (by omega) (hT.trans hT1)
  have H3 := Lib.hid (And.intro hT3 hc3)
  clear hT hbx hT1 hb1 f0 hc3 hT3 hW hb0
  obtain ⟨⟨u0, v0⟩, ⟨u1, v1⟩, -⟩ := cfgOk_iff.1 HC.out.2.1
  have ⟨m0, m1⟩ := mul_bd (a := c.c0) (b := c.c1) (A := 4) (B := 36) (by omega) (by have := HC.out.1; omega) (by omega) (by omega)
  obtain ⟨z, hz⟩ := Int.eq_ofNat_of_zero_le m0
  have hz1 : z ≤ 144 := by omega
  have HZ := Lib.hid hz
  clear u0 v0 u1 v1 hz hw36
  go_wp2_with fail
  simp only [set7] at hW3
  rw [← hW3]
  clear hW3 y0 y1 y2 y3 y4 y5 y6 g0 g1 g2 g3 g4 g5 g6 m0 m1
  rw [HZ.out, show (z : Int) + 1 = ((z + 1 : Nat) : Int) by omega]
  have HB7 := Lib.hid (fun wr (ht : Touch nob W3 wr) => cfg_box H3.out.2 ht)
  have HL3 := Lib.hid (HL.out.old H3.out.1)
  refine (arena_New_ok (z + 1) (by omega) W3).mono ?_
  rintro e w4 ⟨pa, qa, rfl, hT4, hpa, -, hA⟩
  have HPA : Hid (w.heap.size ≤ pa) := Nat.le_trans H3.out.1.size hpa
  have H4 := Lib.hid (And.intro hT4 hA)
  obtain ⟨y0, y1, y2, y3, y4, y5, y6⟩ := HB7.out _ hT4
  clear hT4 hA hpa
  go_wp2_with (go_at_call 32; fail)
  refine (block_New_ok c w4 (HL3.out.old H4.out.1).lim HC.out.2.1 n HC.out.1).mono ?_
  rintro e w5 ⟨pt, qt, rfl, hT5, -, -, hB⟩
  have H5 := Lib.hid (And.intro (H4.out.1.trans hT5) (And.intro (H4.out.2.touch hT5 (fun x => x) (fun x => x)) hB))
  clear hT5 hB y0 y1 y2 y3 y4 y5 y6 H4
  go_wp2_with (go_at_call 61; fail)
  refine (lists_New_len H5.out.2.1 H5.out.2.2 (by rw [List.length_replicate, HZ.out]; omega) (HL3.out.old H5.out.1)).mono ?_
  rintro e w6 ⟨rfl, hT6⟩
  have H6 := Lib.hid (And.intro (H5.out.1.trans hT6) (And.intro (H5.out.2.1.touch hT6 (fun x => x) (fun x => x)) (H5.out.2.2.old hT6)))
  clear hT6 H5
  go_wp2_with (go_at_call 61; fail)
  refine (lists_New_noarena H6.out.2.2 (HL3.out.old H6.out.1)).mono ?_
  rintro e w7 ⟨rfl, hT7⟩
  have H7 := Lib.hid (And.intro (H6.out.1.trans hT7) (H6.out.2.1.touch hT7 (fun x => x) (fun x => x)))
  clear hT7 H6
  go_wp2_with (go_at_call 61; fail)
  refine (lists_New_notable _ (HL3.out.old H7.out.1)).mono ?_
  rintro e w8 ⟨rfl, hT8⟩
  have H8 := Lib.hid (And.intro (H7.out.1.trans hT8) (H7.out.2.touch hT8 (fun x => x) (fun x => x)))
  clear hT8 H7
  go_wp2_with (go_at_call 51; fail)
  refine (lists_nil k w8).1.mono ?_
  rintro e w9 ⟨rfl, rfl⟩
  go_wp2_with (go_at_call 53; fail)
  refine (lists_Put_nil k w8).mono ?_
  rintro e w9 ⟨rfl, hT9⟩
  have H9 := Lib.hid (And.intro (H8.out.1.trans hT9) (H8.out.2.touch hT9 (fun x => x) (fun x => x)))
  clear hT9 H8
  go_wp2_with (go_at_call 52; fail)
  refine (lists_nil k w9).2.mono ?_
  rintro e w10 ⟨rfl, rfl⟩
  go_wp2_with (go_at_call 56; fail)
  refine (lists_Len_no k none (.inl rfl) w9).mono ?_
  rintro e w10 ⟨rfl, rfl⟩
  go_wp2_with (go_at_call 59; fail)
  refine (lists_First_no k none (.inl rfl) w9).mono ?_
  rintro e w10 ⟨rfl, rfl⟩
  go_wp2_with (go_at_call 55; fail)
  refine (law08_list_nil s k H9.out.2).mono ?_
  rintro e w10 ⟨v, rfl, hT10, hI⟩
  obtain ⟨ao, cp, hv⟩ := hI.shape
  rw [List.length_nil] at hv
  subst hv
  have H10 : Hid (Touch nob w w10) := (H3.out.1.trans H9.out.1).step hT10 (fun i hi => .inr (by rw [hi]; exact HPA.out))
  clear hT10 hI
  go_wp2_with (go_at_call 49; fail)
  refine (law08_awake w10 (HL.out.old H10.out)).mono ?_
  rintro e w11 ⟨rfl, hT11⟩
  have H11 := Lib.hid (H10.out.trans hT11)
  clear hT11
  go_wp2
  go_ret
  exact ⟨rfl, H11.out.below⟩
end Go.Proofs.YtjbmpdibjfcafaaDoor
