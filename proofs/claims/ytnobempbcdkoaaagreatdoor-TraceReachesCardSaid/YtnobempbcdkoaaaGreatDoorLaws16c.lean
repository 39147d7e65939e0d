/- TraceRooms, walked. Conditions: the tables of limits, of sizes and of de Bruijn's bits read as laid. -/
import Derived.Test.YtnobempbcdkoaaaGreatDoorLaws16b
import Derived.Test.YtnobempbcdkoaaaGreatDoorMra
namespace Go.Proofs.YtnobempbcdkoaaaGreatDoor
open Go.RowKit

variable {w : World}
theorem Touch.grown2 {w0 w1 w2 : World} {row : Option Nat} {o : Obj} (h : Touch nob w0 w1) (hg : (w1.alloc o).grownBy w2 row) (hr : ∀ k, row = some k → w0.heap.size ≤ k) : Touch nob w0 w2 :=
  Touch.grown (h.alloc _) hg (fun k hk => .inr (hr k hk))
set_option maxRecDepth 20000 in
set_option maxHeartbeats 4000000 in
theorem law_TraceRooms {w : World} (a0 : Int) (_ : (Lit.int .i64 a0).wf = true) (a1 : Int) (_ : (Lit.int .i64 a1).wf = true) (a2 : Int) (_ : (Lit.int .i64 a2).wf = true) (a3 : Int) (_ : (Lit.int .i64 a3).wf = true) (a4 : Int) (_ : (Lit.int .i64 a4).wf = true) (a5 : Int) (_ : (Lit.int .i64 a5).wf = true) (a6 : Int) (_ : (Lit.int .i64 a6).wf = true)
    (th : Value) (r1 : List (List Value)) (s1 : IsSlice w th [some .u8, some .u8, none] r1) (fv : Value) (r2 : List (List Value)) (s2 : IsSlice w fv [some .u16] r2) (rv : Value) (r3 : List (List Value)) (s3 : IsSlice w rv [some .i64] r3) (q0 : Int) (hq0 : (Lit.int .u8 q0).wf = true) (q1 : Int) (hq1 : (Lit.int .u8 q1).wf = true) (hTab : Tab w) (hLim : Limits w) (hS : Sizes w) :
    Calls Tryz.prog 10 #[GrV ⟨a0, a1, a2, a3, a4, a5, a6⟩ th fv, rv, .agg #[.int .u8 q0, .int .u8 q1]] w fun e w' => e = .returned (.bool true) ∧ Below w.heap.size w w' := by
  have hu0 := bounds_u8 hq0
  have hu1 := bounds_u8 hq1
  clear hq0 hq1
  obtain ⟨ths, fs, hG⟩ := GIn.of s1 s2
  obtain ⟨rt, i3, y3, -⟩ := sy_of_slice s3
  obtain ⟨at1, c1, rfl, -⟩ := id hG.th
  obtain ⟨af, c2, rfl⟩ := hG.fv.shape
  obtain ⟨ar, c3, rfl⟩ := i3.shape
  obtain ⟨N, hN⟩ : ∃ N, ths.length = N := ⟨_, rfl⟩
  obtain ⟨M, hM⟩ : ∃ M, fs.length = M := ⟨_, rfl⟩
  obtain ⟨R, hR⟩ : ∃ R, rt.length = R := ⟨_, rfl⟩
  have HG := Lib.hid (And.intro hG (And.intro i3 y3))
  have HLn := Lib.hid (And.intro hN (And.intro hM hR))
  have HL := Lib.hid (And.intro (Laid.mk hLim hS) hTab)
  rw [hN, hM, hR]
  clear hG i3 y3 s1 s2 s3 hLim hS hTab hN hM hR
  go_enter Tryz.func10, Tryz.ntmps10
  go_wp2_with fail
  obtain ⟨W0, hW⟩ : ∃ W, W = (w.alloc (Obj.cells #[.int .i64 a0, .int .i64 a1, .int .i64 a2, .int .i64 a3, .int .i64 a4, .int .i64 a5, .int .i64 a6, .slice at1 N c1, .slice af M c2] 27)).alloc (Obj.cells #[.int .u8 q0, .int .u8 q1] 86) := ⟨_, rfl⟩
  have hT : Touch nob w W0 := by rw [hW]; (repeat (first | with_reducible exact Touch.refl _ _ | with_reducible assumption | with_reducible apply Touch.alloc | with_reducible apply Touch.drewN | with_reducible apply Touch.drew | with_reducible refine Touch.setCell ?_ (.inr (by first | omega | (simp; done) | (simp; omega))) _))
  obtain ⟨b0, hb0⟩ : ∃ b, b = w.heap.size := ⟨_, rfl⟩
  rw [← hW, ← hb0]
  have hbx : W0.heap[b0]? = some (Obj.cells #[.int .i64 a0, .int .i64 a1, .int .i64 a2, .int .i64 a3, .int .i64 a4, .int .i64 a5, .int .i64 a6, .slice at1 N c1, .slice af M c2] 27) := by rw [hW, hb0]; exact alloc2_0 w _ _
  have hby : W0.heap[b0 + 1]? = some (Obj.cells #[.int .u8 q0, .int .u8 q1] 86) := by rw [hW, hb0]; exact alloc2_1 w _ _
  have HB := Lib.hid (And.intro hT (And.intro hbx hby))
  have HBW : Hid (b0 + 1 < W0.heap.size ∧ w.heap.size ≤ b0) := ⟨blk_lt hby, Nat.le_of_eq hb0.symm⟩
  clear hW hb0 hT hbx hby
  go_wp2_with (go_at_call 12; fail)
  refine (law16_great ⟨a0, a1, a2, a3, a4, a5, a6⟩ W0 at1 af ar N c1 M c2 R c3).mono ?_
  rintro e w1 ⟨rfl, t1⟩
  have H1 := Lib.hid (HB.out.1.trans t1)
  have HB1 := Lib.hid (And.intro (blk_touch HB.out.2.1 t1 (fun x => x)) (And.intro (blk_touch HB.out.2.2 t1 (fun x => x)) (Nat.lt_of_lt_of_le HBW.out.1 t1.size)))
  clear t1 HB
  cases hgt : (decide (40 < N) || decide (200 < M) || decide (40 < R)) with
  | true =>
    go_wp2_with (go_at_call 13; fail)
    refine (law16_awake w1 (HL.out.1.old H1.out) (HL.out.2.touch H1.out (fun x => x))).mono ?_
    rintro e w2 ⟨rfl, t2⟩
    have H2 := Lib.hid ((H1.out.trans t2).below)
    clear t2
    go_wp2
    go_ret
    exact ⟨rfl, H2.out⟩
  | false =>
    simp only [Bool.or_eq_false_iff, decide_eq_false_iff_not] at hgt
    have HBd := Lib.hid hgt
    clear hgt
    go_wp2_with (go_at_call 13; fail)
    refine (law16_awake w1 (HL.out.1.old H1.out) (HL.out.2.touch H1.out (fun x => x))).mono ?_
    rintro e w2 ⟨rfl, t2⟩
    have H2 := Lib.hid (And.intro (H1.out.trans t2) (And.intro (blk_touch HB1.out.2.1 t2 (fun x => x)) (Nat.lt_of_lt_of_le HB1.out.2.2 t2.size)))
    obtain ⟨y0, y1, y2, y3, y4, y5, y6, y7, y8⟩ := box9 (blk_touch HB1.out.1 t2 (fun x => x))
    clear t2
    go_wp2_with (go_at_call 14; fail)
    obtain ⟨c, hc⟩ : ∃ c, little ⟨a0, a1, a2, a3, a4, a5, a6⟩ = c := ⟨_, rfl⟩
    have hgi := HG.out.1.old H2.out.1
    rw [HLn.out.1, HLn.out.2.1] at hgi
    refine (law16_Made ⟨a0, a1, a2, a3, a4, a5, a6⟩ c hc _ ths _ fs hgi.fb (by have h1 := HBd.out.1.2; have h2 := HLn.out.2.1; omega) w2 (HL.out.1.old H2.out.1) (HL.out.2.touch H2.out.1 (fun x => x)) hgi.th hgi.fv).mono ?_
    rintro e w3 ⟨A, rfl, W1, S, H, t3, hp, -, z, -, -, -, hz, hz2, -, -⟩
    have hol : S.objs.length ≤ 145 := by have := @objs_len S; omega
    have hrl : R ≤ 40 := by have := HBd.out.2; omega
    have hbb : W1.heap.size ≤ w3.heap.size := hp.at'.base.size
    have H3 := Lib.hid (And.intro (H2.out.1.trans t3) (And.intro hp (And.intro hol (And.intro ((HL.out.2.touch H2.out.1 (fun x => x)).touch t3 (fun x => x)) (And.intro (blk_touch H2.out.2.1 (t3.trans hp.at'.base) (fun x => x)) (show ∀ b, b < w2.heap.size → ¬ HT A b from fun b hb hm => by have := hp.at'.hi b hm; have := t3.size; omega))))))
    have HRt : Hid (∀ w', Touch nob w w' → Sy w' (.slice ar R c3) rt) := fun w' ht => by have := HG.out.2.2.old ht; rwa [HLn.out.2.2] at this
    clear t3 hp hz hz2 hol hgi hc y0 y1 y2 y3 y4 y5 y6 y7 y8 hbb
    obtain ⟨y0, y1, -, -⟩ := box2 H3.out.2.2.2.2.1
    go_wp2_with (go_at_call 46; fail)
    have hne : rt ≠ [] → ∀ b, (Value.slice ar R c3).ownBlock = some b → ¬ HT A b := fun h0 b hb => H3.out.2.2.2.2.2 b (by
      have h1 := HG.out.2.1
      rw [HLn.out.2.2] at h1
      exact Nat.lt_of_lt_of_le (h1.lt h0 hb) H2.out.1.size)
    have HNe := Lib.hid hne
    have HRi : Hid (∀ w', Touch nob w w' → IntsIn w' (.slice ar R c3) rt) := fun w' ht => by have := HG.out.2.1.old ht; rwa [HLn.out.2.2] at this
    clear hne
    refine (tr_Mark (rt := rt) H3.out.2.1 H3.out.2.2.2.1 (.inr rfl) (by omega) (by have := H3.out.2.2.1; omega) ar R c3 (HRi.out _ (H3.out.1.trans H3.out.2.1.at'.base)) HLn.out.2.2 HNe.out (by omega)).mono ?_
    rintro e w4 ⟨n1, al1, K1, rfl, t4, h4, hb4, hn4, -, -⟩
    have H4 := Lib.hid (And.intro h4 (And.intro hb4 hn4))
    have HQb : Hid (∀ wr, Touch (HT A) w3 wr → wr.heap[b0 + 1]? = some (Obj.cells #[.int .u8 q0, .int .u8 q1] 86)) := fun wr ht => blk_touch H3.out.2.2.2.2.1 ht (H3.out.2.2.2.2.2 _ H2.out.2.2)
    have HT4 := Lib.hid t4
    clear t4 h4 hb4 hn4 y0 y1
    go_wp2_with (go_at_call 19; fail)
    refine (hp_Objects H4.out.1 (H3.out.2.2.2.1.touch H4.out.1.at'.base (fun x => x))).mono ?_
    rintro e w5 ⟨v5, rfl, t5, h5, o5⟩
    obtain ⟨ao5, cp5, e5⟩ := o5.ints.shape
    subst e5
    have o5' : Ow w5 w4.heap.size (.slice ao5 S.objs.length cp5) S.objs := o5
    have hol := H3.out.2.2.1
    obtain ⟨n, hn⟩ : ∃ n, S.objs.length = n := ⟨_, rfl⟩
    have hnn : ({ S with K := K1 } : HS).objs.length = n := hn
    rw [hn] at o5' hol
    rw [hnn]
    have H5 := Lib.hid (And.intro h5 (And.intro o5' (And.intro hn (HT4.out.trans t5))))
    have hs5 : w4.heap.size ≤ w5.heap.size := t5.size
    have HS5 := Lib.hid (And.intro hs5 (fun b (hb : b ∈ A.all) => Nat.lt_of_lt_of_le (H4.out.1.at'.lt b hb) hs5))
    clear t5 h5 o5 o5' hn hnn hs5
    obtain ⟨i0, hi, hz0, hz1', hz2⟩ := info_parts info_int2
    go_wp2_with fail
    go_loopw [11, 13] (fun vf iv wr => ∃ j : Nat, j ≤ n ∧ iv = .int .i64 j ∧ Hid (Touch nob w5 wr ∧ Ow wr w5.heap.size vf ((S.objs.take j).map fun x => ({ S with K := K1 } : HS).colV x))) (fun _ iv _ => n - (intOf iv).toNat)
    case atStart => exact ⟨0, Nat.zero_le _, rfl, Touch.refl _ _, World.ownsRow_nil _ _ _ _⟩
    case round =>
      obtain ⟨j, hj, rfl, HI⟩ := hrel
      by_cases hlt : j < n
      · have hb2 : (j : Int) < (n : Int) := by omega
        have ho : Ow wr w4.heap.size (.slice ao5 n cp5) S.objs := H5.out.2.1.touch HI.out.1 (fun _ _ x => x)
        obtain ⟨g, rfl, hcap, hcell⟩ := own_at ho rfl H5.out.2.2.1 hlt
        obtain ⟨x, hx⟩ : ∃ x, S.objs.getD j 0 = x := ⟨_, rfl⟩
        rw [hx] at hcell
        have htk : S.objs.take (j + 1) = S.objs.take j ++ [x] := by rw [take_succ_getD (by rw [H5.out.2.2.1]; exact hlt), hx]
        have hcol := hp_ColorE x (H5.out.1.old HI.out.1)
        obtain ⟨V, hV⟩ : ∃ V, ({ S with K := K1 } : HS).colV x = V := ⟨_, rfl⟩
        rw [hV] at hcol
        have hfl : ((S.objs.take j).map fun x => ({ S with K := K1 } : HS).colV x).length = j := by rw [List.length_map, List.length_take, H5.out.2.2.1]; omega
        have hfo : wr.ownsRow w5.heap.size 3 1 u11 j (((S.objs.take j).map fun x => ({ S with K := K1 } : HS).colV x).map (.int .i64)) := by
          have h9 := HI.out.2
          unfold Ow at h9
          rwa [hfl] at h9
        have HX := Lib.hid (And.intro htk (And.intro hcol (And.intro hV (And.intro hfo hfl))))
        have HS6 : Hid (w5.heap.size ≤ wr.heap.size) := HI.out.1.size
        clear ho hx htk hcol hV hfo hfl
        go_wp2_with (first
          | (go_at_call 35; refine HX.out.2.1.mono ?_; rintro e w6 ⟨rfl, rfl⟩)
          | (at_builtin; go_loud (refine wpList_append_own _ rfl _ _ 28 rfl w5.heap.size 3 i0 (.int .i64 0) 1 8 Tryz.underlying28 hi hz0 hz1' hz2 rfl (by decide) _ j _ rfl (HX.out.2.2.2.1.alloc _) ⟨wr.heap.size, 0, none⟩ 1 1 [.int .i64 V] rfl rfl (World.news_of_block (World.alloc_heap_new _ _)) (ints_oneCell _ [V]) (by unfold maxLen; omega) (by omega) (by have := HS6.out; simp; omega) ?_); intro v3 w7 hown hgrow _; have HW3 := Lib.hid (And.intro hown hgrow); clear hown hgrow))
        go_roundw
        case rel =>
          refine ⟨j + 1, by omega, by go_num, HI.out.1.grown2 HW3.out.2 (fun k hk => (World.ownsRow.lt HX.out.2.2.2.1 k hk).1), ?_⟩
          have h1 := HW3.out.1
          show Ow _ _ _ _
          unfold Ow
          rw [HX.out.1, List.map_append, List.length_append, HX.out.2.2.2.2, List.map_append, List.map_singleton, List.map_singleton, HX.out.2.2.1]
          exact h1
        case measure => simp [intOf]; omega
      · obtain rfl : j = n := by omega
        have hb2 : ¬ (j : Int) < (j : Int) := by omega
        obtain ⟨ht, hw⟩ := HI.out
        rw [List.take_of_length_le (Nat.le_of_eq H5.out.2.2.1)] at hw
        obtain ⟨ao, cp, rfl⟩ := hw.ints.shape
        have hml : (S.objs.map fun x => ({ S with K := K1 } : HS).colV x).length = j := by rw [List.length_map, H5.out.2.2.1]
        have hw' : Ow wr w5.heap.size (.slice ao j cp) (S.objs.map fun x => ({ S with K := K1 } : HS).colV x) := by rwa [hml] at hw
        rw [hml]
        have HI2 := Lib.hid (And.intro ht (And.intro hw' hml))
        have t35 : Touch (HT A) w3 wr := H5.out.2.2.2.trans ht.hnob
        obtain ⟨y0, y1, -, -⟩ := box2 (HQb.out wr t35)
        clear hw hw' ht hml HI t35
        go_wp2_with (go_at_call 46; fail)
        refine (tr_Mark (S := { S with K := K1 }) (rt := rt) (H5.out.1.old HI2.out.1) H3.out.2.2.2.1 (.inr rfl) (by omega) (by have := H3.out.2.2.1; exact Nat.le_trans this (by omega)) ar R c3 (HRi.out _ (H3.out.1.trans (H5.out.1.old HI2.out.1).at'.base)) HLn.out.2.2 HNe.out (by omega)).mono ?_
        rintro e w8 ⟨n2, al2, K2, rfl, t8, h8, hb8, hn8, -, -⟩
        have hblk : S.blk 1 K1 = S.blk 1 K2 := funext fun x => by
          rw [Bool.eq_iff_iff]
          exact (H4.out.2.1 x).trans (⟨Rch.toK, Rch.ofK⟩ : Rch S c rt x ↔ Rch { S with K := K1 } c rt x) |>.trans (hb8 x).symm
        have hnn : n1 = n2 := by
          have e2 : n2 = (S.objs.filter (S.blk 1 K2)).length := hn8
          rw [e2, ← hblk]
          exact H4.out.2.2
        subst hnn
        have hcv : ∀ x, S.obj x = true → ({ S with K := K1 } : HS).colV x = ({ S with K := K2 } : HS).colV x := fun x ho => by
          have h1 : S.blk 1 K1 x = S.blk 1 K2 x := by rw [hblk]
          unfold HS.blk at h1
          rw [ho, Bool.true_and, Bool.true_and] at h1
          have two : ∀ K, ({ S with K := K } : HS).colV x = 0 ∨ ({ S with K := K } : HS).colV x = 1 := fun K => by unfold HS.colV; split <;> simp
          rcases two K1 with h | h <;> rcases two K2 with h' | h' <;> rw [h, h'] at h1 <;> rw [h, h'] <;> simp at h1
        have h8' : HpI W1 w8 A c { S with K := K2 } H := h8
        have h3d : Touch nob w w8 := H3.out.1.trans h8.at'.base
        have H8 := Lib.hid (And.intro h8' (And.intro hcv (And.intro (ow_hp HI2.out.2.1 t8 HS5.out.2) (And.intro (ow_hp (H5.out.2.1.touch HI2.out.1 (fun _ _ x => x)) t8 H4.out.1.at'.lt) (And.intro HI2.out.2.2 h3d)))))
        clear t8 h8 hb8 hn8 hblk hcv h8' h3d y0 y1
        go_wp2_with fail
        go_loopw [19] (fun iv wr2 => ∃ j2 : Nat, j2 ≤ j ∧ iv = .int .i64 j2 ∧ w8 = wr2) (fun iv _ => j - (intOf iv).toNat)
        case atStart => exact ⟨0, Nat.zero_le _, rfl, rfl⟩
        case round =>
          obtain ⟨j2, hj2, rfl, rfl⟩ := hrel
          by_cases hlt : j2 < j
          · have hb3 : (j2 : Int) < (j : Int) := by omega
            obtain ⟨g, rfl, hcap, hcell⟩ := own_at H8.out.2.2.2.1 rfl H5.out.2.2.1 hlt
            obtain ⟨g', rfl, hcap', hcell'⟩ := own_at H8.out.2.2.1 rfl H8.out.2.2.2.2.1 hlt
            obtain ⟨x, hx⟩ : ∃ x, S.objs.getD j2 0 = x := ⟨_, rfl⟩
            have hjl : j2 < S.objs.length := by rw [H5.out.2.2.1]; exact hlt
            rw [hx] at hcell
            have ho : S.obj x = true := mem_objs.1 (by rw [← hx, List.getD_eq_getElem?_getD, List.getElem?_eq_getElem hjl]; exact List.getElem_mem hjl)
            have hcol := hp_ColorE x H8.out.1
            obtain ⟨V, hV⟩ : ∃ V, ({ S with K := K2 } : HS).colV x = V := ⟨_, rfl⟩
            have hE : ({ S with K := K2 } : HS).colE x = 0 := by
              unfold HS.colE
              exact if_pos ho
            rw [hV, hE] at hcol
            rw [show (S.objs.map fun x => ({ S with K := K1 } : HS).colV x).getD j2 0 = V by
              rw [List.getD_eq_getElem?_getD, List.getElem?_map, List.getElem?_eq_getElem hjl]
              rw [List.getD_eq_getElem?_getD, List.getElem?_eq_getElem hjl] at hx
              simp only [Option.getD_some] at hx
              show ({ S with K := K1 } : HS).colV S.objs[j2] = V
              rw [hx, H8.out.2.1 x ho, hV]] at hcell'
            have HC := Lib.hid hcol
            clear hx hjl ho hV hE hcol
            go_wp2_with (go_at_call 35; fail)
            refine HC.out.mono ?_
            rintro e w9 ⟨rfl, rfl⟩
            go_wp2
            go_roundw
            case rel => exact ⟨j2 + 1, by omega, by go_num, by first | rfl | trivial⟩
            case measure => simp [intOf]; omega
          · obtain rfl : j2 = j := by omega
            have hb3 : ¬ (j2 : Int) < (j2 : Int) := by omega
            have HE := Lib.hid (H8.out.2.2.2.2.2.below)
            go_wp2
            go_ret
            exact ⟨rfl, HE.out⟩
end Go.Proofs.YtnobempbcdkoaaaGreatDoor
