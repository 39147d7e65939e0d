/- NotePours, walked. Conditions: the tables of limits, of sizes and of de Bruijn's bits read as laid. -/
import Derived.Test.YtnobempbcdkoaaaGreatDoorNoq
import Derived.Test.YtnobempbcdkoaaaGreatDoorNor
import Derived.BigQuiet
namespace Go.Proofs.YtnobempbcdkoaaaGreatDoor
open Go.RowKit Go.Sort

variable {w : World}
set_option maxRecDepth 20000 in
set_option maxHeartbeats 4000000 in
theorem npours_false_false {w : World} (a0 a1 a2 a3 a4 a5 a6 : Int) (th : Value) (r1 : List (List Value)) (s1 : IsSlice w th [some .u8, some .u8, none] r1) (bf : Value) (r2 : List (List Value)) (s2 : IsSlice w bf [some .u8] r2) (bx : Value) (r3 : List (List Value)) (s3 : IsSlice w bx [some .u8] r3) (rm : Int) (hq0 : (Lit.int .u8 rm).wf = true) (up : Bool) (hU : Hid (up = false)) (hTab : Tab w) (hLim : Limits w) (hS : Sizes w) :
    Calls Tryz.prog 7 #[CsV ⟨a0, a1, a2, a3, a4, a5, a6⟩ th bf bx rm up, .bool false] w fun e w' => e = .returned (.bool true) ∧ Below w.heap.size w w' := by
  obtain ⟨N0, hI0, -⟩ := rows_of_slice s1 (by simp)
  obtain ⟨ths, -, hth⟩ := ThIn.of_rows hI0
  obtain ⟨ks, hbf, -, hkb⟩ := k_of_slice s2
  obtain ⟨ls, hbx, -, hlb⟩ := k_of_slice s3
  have hrm := bounds_u8 hq0
  obtain ⟨at1, c1, rfl, -⟩ := id hth
  obtain ⟨af, c2, rfl⟩ := hbf.shape
  obtain ⟨ar, c3, rfl⟩ := hbx.shape
  obtain ⟨N, hN⟩ : ∃ N, ths.length = N := ⟨_, rfl⟩
  obtain ⟨M, hM⟩ : ∃ M, ks.length = M := ⟨_, rfl⟩
  obtain ⟨R, hR⟩ : ∃ R, ls.length = R := ⟨_, rfl⟩
  have HG := Lib.hid (And.intro hth (And.intro hbf (And.intro hbx (And.intro hkb (And.intro hlb hrm)))))
  have HLn := Lib.hid (And.intro hN (And.intro hM hR))
  have HL := Lib.hid (And.intro (Laid.mk hLim hS) hTab)
  rw [hN, hM, hR]
  clear hth hbf hbx hkb hlb hI0 s1 s2 s3 hLim hS hTab hN hM hR hq0 hrm
  go_enter Tryz.func7, Tryz.ntmps7
  go_wp2_with fail
  obtain ⟨W0, hW⟩ : ∃ W, W = w.alloc (Obj.cells (CsR ⟨a0, a1, a2, a3, a4, a5, a6⟩ (.slice at1 N c1) (.slice af M c2) (.slice ar R c3) rm up) 54) := ⟨_, rfl⟩
  have hT : Touch nob w W0 := by rw [hW]; (repeat (first | with_reducible exact Touch.refl _ _ | with_reducible assumption | with_reducible apply Touch.alloc | with_reducible apply Touch.drewN | with_reducible apply Touch.drew | with_reducible refine Touch.setCell ?_ (.inr (by first | omega | (simp; done) | (simp; omega))) _))
  obtain ⟨b0, hb0⟩ : ∃ b, b = w.heap.size := ⟨_, rfl⟩
  rw [← hW, ← hb0]
  have hbx : W0.heap[b0]? = some (Obj.cells (CsR ⟨a0, a1, a2, a3, a4, a5, a6⟩ (.slice at1 N c1) (.slice af M c2) (.slice ar R c3) rm up) 54) := by rw [hW, hb0]; exact World.alloc_heap_new w _
  have HB := Lib.hid (And.intro hT hbx)
  clear hW hb0 hT hbx
  obtain ⟨y0, y1, y2, y3, y4, y5, y6, y7, y8, y9, ya, yb⟩ := box12 HB.out.2
  go_wp2_with (go_at_call 26; fail)
  refine (law19_great ⟨a0, a1, a2, a3, a4, a5, a6⟩ W0 at1 af ar N c1 M c2 R c3 rm up).mono ?_
  rintro e w1 ⟨rfl, t1⟩
  have H1 := Lib.hid (And.intro (HB.out.1.trans t1) (blk_touch HB.out.2 t1 (fun x => x)))
  clear t1 HB y0 y1 y2 y3 y4 y5 y6 y7 y8 y9 ya yb
  cases hgt : (decide (30 < N) || decide (40 < M) || decide (40 < R)) with
  | true =>
    go_wp2_with (go_at_call 27; fail)
    refine (law19_awake w1 (HL.out.1.old H1.out.1)).mono ?_
    rintro e w2 ⟨rfl, t2⟩
    have H2 := Lib.hid ((H1.out.1.trans t2).below)
    clear t2
    go_wp2
    go_ret
    exact ⟨rfl, H2.out⟩
  | false =>
    simp only [Bool.or_eq_false_iff, decide_eq_false_iff_not] at hgt
    have HBd := Lib.hid hgt
    clear hgt
    go_wp2_with (go_at_call 27; fail)
    refine (law19_awake w1 (HL.out.1.old H1.out.1)).mono ?_
    rintro e w2 ⟨rfl, t2⟩
    have H2 := Lib.hid (And.intro (H1.out.1.trans t2) (blk_touch H1.out.2 t2 (fun x => x)))
    obtain ⟨y0, y1, y2, y3, y4, y5, y6, y7, y8, y9, ya, yb⟩ := box12 H2.out.2
    clear t2
    go_wp2_with (go_at_call 28; fail)
    obtain ⟨c, hc⟩ : ∃ c, little ⟨a0, a1, a2, a3, a4, a5, a6⟩ = c := ⟨_, rfl⟩
    have hpt := law19_parts ⟨a0, a1, a2, a3, a4, a5, a6⟩ c hc _ _ _ ths ks ls rm up w2 (HL.out.1.old H2.out.1) (HL.out.2.touch H2.out.1 (fun x => x)) (HG.out.1.old H2.out.1) (HG.out.2.1.old H2.out.1) (HG.out.2.2.1.old H2.out.1) (fun j hj => bounds_u8 (HG.out.2.2.2.1 j hj)) (fun j hj => bounds_u8 (HG.out.2.2.2.2.1 j hj)) (by have h1 := HBd.out; have h2 := HLn.out.2.1; omega) (by have h1 := HBd.out; have h2 := HLn.out.2.2; omega) HG.out.2.2.2.2.2
    rw [HLn.out.1, HLn.out.2.1, HLn.out.2.2] at hpt
    refine hpt.mono ?_
    rintro e w3 ⟨A, p, q, f, rfl, W1, S, H, bs, xs, t3, hP, hbm, hxm, hxl, hol⟩
    obtain ⟨r6, hr6⟩ : ∃ r, rm % 6 = r := ⟨_, rfl⟩
    rw [hr6] at hP
    have HR6 := Lib.hid (And.intro hr6 HG.out.2.2.2.2.2)
    have H3 := Lib.hid (And.intro (H2.out.1.trans t3) (And.intro hP (And.intro hbm (And.intro hxm (And.intro hxl (And.intro hol ((HL.out.2.touch H2.out.1 (fun x => x)).touch t3 (fun x => x))))))))
    have HBX : Hid (∀ wr, Touch nob W1 wr → wr.heap[b0]? = some (Obj.cells (CsR ⟨a0, a1, a2, a3, a4, a5, a6⟩ (.slice at1 N c1) (.slice af M c2) (.slice ar R c3) rm up) 54)) := fun wr ht => blk_touch H2.out.2 (t3.trans ht) (fun x => x)
    clear t3 hP hbm hxm hxl hol hc hpt hr6 y0 y1 y2 y3 y4 y5 y6 y7 y8 y9 ya yb
    go_wp2_with (go_at_call 29; fail)
    refine (note_New_ok A.h p q f w3).mono ?_
    rintro e w4 ⟨n, rfl, hn4, t4, hb4⟩
    have HN4 := Lib.hid (H3.out.2.1.nt t4 hn4 hb4)
    clear hn4 t4 hb4
    go_wp2_with (go_at_call 36; fail)
    refine (law19_colors HN4.out.hp (H3.out.2.2.2.2.2.2.touch HN4.out.hp.at'.base (fun x => x)) (Nat.le_trans H3.out.2.2.2.2.2.1 (by decide))).mono ?_
    rintro e w5 ⟨va, vc, rfl, t5, h5, oa, oc⟩
    have HN5 := Lib.hid (HN4.out.heap t5 h5)
    have HO5 := Lib.hid (And.intro oa (And.intro oc t5.size))
    clear t5 h5 oa oc
    go_wp2_with (go_at_call 30; fail)
    obtain ⟨u5, hb5, -⟩ := HN5.out.buf
    refine (buf_All2 hb5).mono ?_
    rintro e w6 ⟨v6, rfl, t6, hs6, hB6⟩
    have H6 := Lib.hid (And.intro (HN5.out.old t6) (And.intro hs6 (And.intro (show ∀ b, v6.ownBlock = some b → w5.heap.size ≤ b from fun b hb => (hB6 b hb).resolve_left (fun e => by cases e)) t6)))
    clear t6 hs6 hB6 hb5
    go_wp2_with (go_at_call 37; fail)
    obtain ⟨y6, hx6, -⟩ := H6.out.1.box
    refine (box_Len hx6).mono ?_
    rintro e w7 ⟨rfl, rfl⟩
    clear hx6
    obtain ⟨X, hX⟩ : ∃ X, xs.length = X := ⟨_, rfl⟩
    rw [hX]
    have HX := Lib.hid hX
    clear hX
    go_wp2_with (go_at_call 38; fail)
    refine (note_Once .nilFunc (.inl rfl) w6).mono ?_
    rintro e w8 ⟨bO, rfl, hbO, t8, hO⟩
    have HN8 := Lib.hid (And.intro (H6.out.1.old t8) (And.intro hO (And.intro hbO t8)))
    clear hbO t8 hO
    go_wp2_with (go_at_call 43; fail)
    refine (does_pour (m := 1) (I := fun _ => True) (Q := fun w' => NtR W1 A c H n p q f (1 + r6) (pourR S 0 bs xs up) w' ∧ Touch (NoT A p q f) w8 w') (.inr ⟨_, _, rfl⟩) HN8.out.1 (fun _ _ _ => trivial) (fun w' ht hN' => does_once (blk_touch HN8.out.2.1 ht (nt_keep H6.out.1 HN8.out.2.2.1)) trivial ⟨hN', ht⟩)).mono ?_
    rintro e w9 ⟨sv, rfl, t9, hD⟩
    have HD := Lib.hid hD
    clear t9 hD
    go_wp2_with (go_at_call 31; fail)
    have hKb : 1 + pourK S 0 bs xs ≤ 1000 := by
      have h1 := HN8.out.1.ln
      unfold pourK
      split
      · omega
      · split
        · omega
        · split <;> omega
    refine (note_Run (1 + pourK S 0 bs xs) 1000 sv HD.out (by omega)).mono ?_
    rintro e w10 ⟨T, rfl, hT, -, hQ⟩
    obtain rfl : T = 1 + pourK S 0 bs xs := by omega
    rw [decide_eq_true rfl]
    obtain ⟨T, hT2⟩ : ∃ T, 1 + pourK S 0 bs xs = T := ⟨_, rfl⟩
    rw [hT2]
    obtain ⟨hN10, t10⟩ := hQ rfl
    have oa10 : Ow w10 w4.heap.size va S.objs := (HO5.out.1.touch (H6.out.2.2.2.trans HN8.out.2.2.2) (fun _ _ x => x)).touch t10 (fun g hg => nt_keep HN4.out (HO5.out.1.new g hg))
    have oc10 : Ow w10 w4.heap.size vc (S.objs.map S.colV) := (HO5.out.2.1.touch (H6.out.2.2.2.trans HN8.out.2.2.2) (fun _ _ x => x)).touch t10 (fun g hg => nt_keep HN4.out (HO5.out.2.1.new g hg))
    have os10 : SlAt w10 v6 bs := (H6.out.2.1.old HN8.out.2.2.2).touch t10 (fun g hg => nt_keep HN5.out (H6.out.2.2.1 g hg))
    have HKb := Lib.hid hKb
    have H10 := Lib.hid (And.intro hN10 (And.intro oa10 (And.intro oc10 (And.intro os10 hT2))))
    clear hKb hT hQ hN10 t10 oa10 oc10 os10 hT2
    go_wp2_with (go_at_call 40; fail)
    have hmb : ∀ z, z ∈ bs → S.obj z = true := fun z hz => mem_objs.1 (H3.out.2.2.1 z hz)
    refine (law19_poured (col := 0) S.colV H10.out.2.1.ints H10.out.2.2.1.ints (sl_ints H10.out.2.2.2.1) (Nat.le_trans H3.out.2.2.2.2.2.1 (by decide)) (by rw [List.length_map]) (by have := HN8.out.1.ln; omega) H3.out.2.2.1 (fun j hj => by rw [List.getD_eq_getElem?_getD, List.getD_eq_getElem?_getD, List.getElem?_map, List.getElem?_eq_getElem hj]; rfl) X (by have h1 := HX.out; have h2 := H3.out.2.2.2.2.1; omega)).mono ?_
    rintro e w11 ⟨vf, F, k', rfl, t11, oF, hFl, hPw⟩
    rw [← HX.out] at hPw
    have hpl := pour_plain (up := up) (by decide) hmb hPw
    obtain ⟨af2, cf2, rfl⟩ := oF.ints.shape
    obtain ⟨l, hl⟩ : ∃ l, F.length = l := ⟨_, rfl⟩
    rw [hl]
    obtain ⟨S2, hS2⟩ : ∃ S2, (pourR S 0 bs xs up).1 = S2 := ⟨_, rfl⟩
    obtain ⟨xs2, hxs2⟩ : ∃ xs2, (pourR S 0 bs xs up).2.2.1 = xs2 := ⟨_, rfl⟩
    obtain ⟨up2, hup2⟩ : ∃ up2, (pourR S 0 bs xs up).2.2.2 = up2 := ⟨_, rfl⟩
    have hN11 := H10.out.1.old t11
    unfold NtR at hN11
    rw [pourR_nil, hS2, hxs2, hup2] at hN11
    rw [hS2, hxs2, hup2] at hpl
    have HN11 := Lib.hid hN11
    have H11 := Lib.hid (And.intro (H10.out.2.1.touch t11 (fun _ _ x => x)) (And.intro (H10.out.2.2.1.touch t11 (fun _ _ x => x)) (And.intro (H10.out.2.2.2.1.old t11) (And.intro oF (And.intro hl (And.intro hFl (And.intro hpl H10.out.2.2.2.2)))))))
    clear hPw hpl t11 oF hFl hl hN11 hS2 hxs2 hup2 hmb
    have hpk := H11.out.2.2.2.2.2.2.1
    have hTk : T = 1 + k' := by rw [← hpk.1]; exact H11.out.2.2.2.2.2.2.2.symm
    have hk1 : 1 + k' ≤ 1000 := by rw [← hpk.1]; exact HKb.out
    have hT3 : ((T : Nat) : Int) = (k' : Int) + 1 := by omega
    rw [hT3]
    have hwk : IntKind.i64.wrap ((k' : Int) + 1) = (k' : Int) + 1 := IntWalk.i64_in _ (by omega)
    have hup2 : up2 = (up || decide (l ≠ 0)) := by
      rw [hpk.2.1]
      congr 1
      rw [decide_eq_decide, ← H11.out.2.2.2.2.1]
      exact not_congr List.length_eq_zero_iff.symm
    have HPt := Lib.hid (fun wr (ht : Touch nob w11 wr) => law19_painted (col := 0) (HN11.out.hp.old ht) (H11.out.1.touch ht (fun _ _ x => x)).ints (H11.out.2.1.touch ht (fun _ _ x => x)).ints (H11.out.2.2.2.1.touch ht (fun _ _ x => x)).ints (Nat.le_trans H3.out.2.2.2.2.2.1 (by decide)) (by rw [List.length_map]) (by have h1 := H11.out.2.2.2.2.2.1; have h2 := HN8.out.1.ln; omega) (fun j hj => by
      have hm : S.obj (S.objs.getD j 0) = true := mem_objs.1 (by rw [List.getD_eq_getElem?_getD, List.getElem?_eq_getElem hj]; exact List.getElem_mem _)
      refine ⟨?_, ?_⟩
      · unfold HS.colE
        rw [if_pos (by rw [H11.out.2.2.2.2.2.2.1.2.2.2.1]; exact hm)]
      · rw [H11.out.2.2.2.2.2.2.1.2.2.2.2 _ hm]
        congr 1
        rw [List.getD_eq_getElem?_getD, List.getD_eq_getElem?_getD, List.getElem?_map, List.getElem?_eq_getElem hj]
        rfl))
    rw [H11.out.2.2.2.2.1] at HPt
    have HLb : Hid (∀ wr, Touch nob w11 wr → Calls Tryz.prog 33 #[pt p] wr fun e w' => e = .returned (.int .i64 0) ∧ wr = w') := fun wr ht => by
      obtain ⟨u, h1, -⟩ := (HN11.out.old ht).buf
      exact buf_Len h1
    have HDr : Hid (Touch nob w11 w11.drew) := Touch.drew (Touch.refl _ _)
    have HC := Lib.hid (fun wr (ht : Touch nob w11 wr) => show wr.cell? ⟨b0, 11, none⟩ = some (.bool up) from (box12 (HBX.out wr (HN11.out.hp.at'.base.trans ht))).2.2.2.2.2.2.2.2.2.2.2)
    clear hpk hTk hT3
    have hU2 := hU.out
    subst hU2
    by_cases hl0 : l = 0
    all_goals
      first
      | (have hlb : ¬ (0 : Int) < (l : Int) := by omega)
      | (have hlb : (0 : Int) < (l : Int) := (by omega); have hlbn : 0 < l := (by omega))
      first
      | rw [decide_eq_true (show l ≠ 0 from hl0)] at hup2
      | rw [decide_eq_false (show ¬ l ≠ 0 from fun h => h hl0)] at hup2
      have HU := Lib.hid HN11.out.fl
      rw [hup2] at HU
      try rw [Bool.false_or] at HU
      try rw [Bool.true_or] at HU
      clear hup2
      try subst hl0
      go_wp2_with fail
      have k11 := cell_regrown (HC.out w11 (Touch.refl _ _))
      have d1 := fun d os => Calls.regrown_of ((HPt.out (grow (redrawn w11 d) os) (Touch.of_below (S := nob) (below_regrown w11 d os))).mono fun _ _ h => ⟨h.1, h.2.below⟩)
      have d2 := fun d os => Calls.regrown_of ((flag_Up f _ (blk_touch HU.out (Touch.of_below (S := nob) (below_regrown w11 d os)) (fun x => x))).mono fun _ _ h => ⟨h.1, h.2 ▸ (Touch.refl nob _).below⟩)
      have d3 := fun d os => Calls.regrown_of ((HLb.out (grow (redrawn w11 d) os) (Touch.of_below (S := nob) (below_regrown w11 d os))).mono fun _ _ h => ⟨h.1, h.2 ▸ (Touch.refl nob _).below⟩)
      refine wp_region_quiet_below (by kernel_rfl) (by kernel_rfl) ?_
      repeat (go_big_quiet_step (first | (go_at_call 42; exact d1 _ _) | (go_at_call 41; exact d2 _ _) | (go_at_call 33; exact d3 _ _)))
      refine wpQuiet_nil ?_
      intro w12 hw'
      obtain ⟨⟨dr, osr⟩, hw''⟩ := hw'
      simp only at hw''
      have HP : Hid (Touch nob w11 w12) := by show Touch nob w11 w12; rw [hw'']; exact Touch.of_below (below_regrown w11 dr osr)
      clear hw'' d1 d2 d3 k11
      have HN12 := Lib.hid (HN11.out.old HP.out)
      have HS12 := Lib.hid (H11.out.2.2.1.old HP.out)
      have hxs := H11.out.2.2.2.2.2.2.1.2.2.1
      by_cases hX0 : X = 0
      · have hXb : ¬ (0 : Int) < (X : Int) := by omega
        have hxn : xs = [] := List.length_eq_zero_iff.1 (HX.out.trans hX0)
        rw [if_pos hxn] at hxs
        rw [hxs] at HN12
        clear hxn hxs
        obtain ⟨L, hL⟩ : ∃ L, bs.length = L := ⟨_, rfl⟩
        have HLl := Lib.hid hL
        obtain ⟨a6, c6, e6⟩ := (sl_ints HS12.out).shape
        rw [hL] at e6
        subst e6
        clear hL
        have HI0 : Hid (∃ y, BoxAt w12 q y (bs.drop 0) ∧ SlAt w12 (.slice a6 L c6) bs ∧ Touch nob W1 w12) := by
          obtain ⟨y, hy, -⟩ := HN12.out.box
          exact ⟨y, hy, HS12.out, HN12.out.hp.at'.base⟩
        have hLb : L ≤ 256 := by have h1 := HN8.out.1.ln; have h2 := HLl.out; omega
        have hqn := Lib.hid (HN12.out.no q (.inr (.inr (.inl rfl)))).2
        go_wp2_with fail
        go_loopw [20] (fun iv wr => ∃ j : Nat, j ≤ L ∧ iv = .int .i64 j ∧ Hid (∃ y, BoxAt wr q y (bs.drop j) ∧ SlAt wr (.slice a6 L c6) bs ∧ Touch nob W1 wr)) (fun iv _ => L - (intOf iv).toNat)
        case atStart => exact ⟨0, Nat.zero_le _, rfl, HI0.out⟩
        case round =>
          obtain ⟨j, hj, rfl, HI⟩ := hrel
          by_cases hlt : j < L
          · have hb : (j : Int) < (L : Int) := by omega
            obtain ⟨y, h1, h2, h3⟩ := HI.out
            have hdr : bs.drop j = bs.getD j 0 :: bs.drop (j + 1) := by
              rw [List.drop_eq_getElem_cons (by rw [HLl.out]; exact hlt)]
              congr 1
              rw [List.getD_eq_getElem?_getD, List.getElem?_eq_getElem (by rw [HLl.out]; exact hlt)]
              rfl
            rw [hdr] at h1
            obtain ⟨x, hx⟩ : ∃ x, bs.getD j 0 = x := ⟨_, rfl⟩
            rw [hx] at h1
            have HX2 := Lib.hid (And.intro h1 (And.intro h2 (And.intro h3 hx)))
            clear hdr h1 h2 h3 hx HI
            go_wp2_with (go_at_call 34; fail)
            refine (box_Next_ok HX2.out.1).mono ?_
            rintro e w13 ⟨rfl, t13, v13, hb13, -⟩
            have hs13 := HX2.out.2.1.touch t13 (fun b hb => HX2.out.2.1.ne HX2.out.1.box HX2.out.1.ty b hb)
            obtain ⟨g6, o6, p6, e6, hc6, hcl6⟩ := (sl_ints hs13).at (k := j) (by rw [HLl.out]; exact hlt)
            rw [HLl.out] at e6 hc6
            injection e6 with z1 z2 z3
            subst z1 z3
            rw [HX2.out.2.2.2] at hcl6
            have H13 : Hid (∃ y, BoxAt w13 q y (bs.drop (j + 1)) ∧ SlAt w13 (.slice (some ⟨g6, o6, none⟩) L c6) bs ∧ Touch nob W1 w13) := ⟨_, hb13, hs13, HX2.out.2.2.1.step t13 (fun b hb => .inr ((show b = q from hb) ▸ hqn.out))⟩
            clear hs13 hb13 t13 z2
            go_wp2_with fail
            go_roundw
            case rel => exact ⟨j + 1, by omega, by go_num, H13.out⟩
            case measure => simp [intOf]; omega
          · obtain rfl : j = L := by omega
            have hb : ¬ (j : Int) < (j : Int) := by omega
            obtain ⟨y, h1, h2, h3⟩ := HI.out
            rw [List.drop_of_length_le (Nat.le_of_eq HLl.out)] at h1
            have HX2 := Lib.hid (And.intro h1 h3)
            clear h1 h2 h3 HI
            go_wp2_with (go_at_call 37; fail)
            refine (box_Len HX2.out.1).mono ?_
            rintro e w13 ⟨rfl, rfl⟩
            rw [List.length_nil]
            go_wp2
            go_ret
            exact ⟨rfl, (H3.out.1.trans HX2.out.2).below⟩
      · have hXb : (0 : Int) < (X : Int) := by omega
        have hxn : ¬ xs = [] := fun e => hX0 (by rw [← HX.out, e]; rfl)
        rw [if_neg hxn] at hxs
        rw [hxs] at HN12
        clear hxn hxs
        go_wp2_with (go_at_call 37; fail)
        obtain ⟨y, hy, -⟩ := HN12.out.box
        refine (box_Len hy).mono ?_
        rintro e w13 ⟨rfl, rfl⟩
        rw [HX.out]
        clear hy
        go_wp2
        go_ret
        exact ⟨by first | rfl | exact ret_b (by simp), (H3.out.1.trans HN12.out.hp.at'.base).below⟩
set_option maxRecDepth 20000 in
set_option maxHeartbeats 4000000 in
theorem npours_true_false {w : World} (a0 a1 a2 a3 a4 a5 a6 : Int) (th : Value) (r1 : List (List Value)) (s1 : IsSlice w th [some .u8, some .u8, none] r1) (bf : Value) (r2 : List (List Value)) (s2 : IsSlice w bf [some .u8] r2) (bx : Value) (r3 : List (List Value)) (s3 : IsSlice w bx [some .u8] r3) (rm : Int) (hq0 : (Lit.int .u8 rm).wf = true) (up : Bool) (hU : Hid (up = false)) (hTab : Tab w) (hLim : Limits w) (hS : Sizes w) :
    Calls Tryz.prog 7 #[CsV ⟨a0, a1, a2, a3, a4, a5, a6⟩ th bf bx rm up, .bool true] w fun e w' => e = .returned (.bool true) ∧ Below w.heap.size w w' := by
  obtain ⟨N0, hI0, -⟩ := rows_of_slice s1 (by simp)
  obtain ⟨ths, -, hth⟩ := ThIn.of_rows hI0
  obtain ⟨ks, hbf, -, hkb⟩ := k_of_slice s2
  obtain ⟨ls, hbx, -, hlb⟩ := k_of_slice s3
  have hrm := bounds_u8 hq0
  obtain ⟨at1, c1, rfl, -⟩ := id hth
  obtain ⟨af, c2, rfl⟩ := hbf.shape
  obtain ⟨ar, c3, rfl⟩ := hbx.shape
  obtain ⟨N, hN⟩ : ∃ N, ths.length = N := ⟨_, rfl⟩
  obtain ⟨M, hM⟩ : ∃ M, ks.length = M := ⟨_, rfl⟩
  obtain ⟨R, hR⟩ : ∃ R, ls.length = R := ⟨_, rfl⟩
  have HG := Lib.hid (And.intro hth (And.intro hbf (And.intro hbx (And.intro hkb (And.intro hlb hrm)))))
  have HLn := Lib.hid (And.intro hN (And.intro hM hR))
  have HL := Lib.hid (And.intro (Laid.mk hLim hS) hTab)
  rw [hN, hM, hR]
  clear hth hbf hbx hkb hlb hI0 s1 s2 s3 hLim hS hTab hN hM hR hq0 hrm
  go_enter Tryz.func7, Tryz.ntmps7
  go_wp2_with fail
  obtain ⟨W0, hW⟩ : ∃ W, W = w.alloc (Obj.cells (CsR ⟨a0, a1, a2, a3, a4, a5, a6⟩ (.slice at1 N c1) (.slice af M c2) (.slice ar R c3) rm up) 54) := ⟨_, rfl⟩
  have hT : Touch nob w W0 := by rw [hW]; (repeat (first | with_reducible exact Touch.refl _ _ | with_reducible assumption | with_reducible apply Touch.alloc | with_reducible apply Touch.drewN | with_reducible apply Touch.drew | with_reducible refine Touch.setCell ?_ (.inr (by first | omega | (simp; done) | (simp; omega))) _))
  obtain ⟨b0, hb0⟩ : ∃ b, b = w.heap.size := ⟨_, rfl⟩
  rw [← hW, ← hb0]
  have hbx : W0.heap[b0]? = some (Obj.cells (CsR ⟨a0, a1, a2, a3, a4, a5, a6⟩ (.slice at1 N c1) (.slice af M c2) (.slice ar R c3) rm up) 54) := by rw [hW, hb0]; exact World.alloc_heap_new w _
  have HB := Lib.hid (And.intro hT hbx)
  clear hW hb0 hT hbx
  obtain ⟨y0, y1, y2, y3, y4, y5, y6, y7, y8, y9, ya, yb⟩ := box12 HB.out.2
  go_wp2_with (go_at_call 26; fail)
  refine (law19_great ⟨a0, a1, a2, a3, a4, a5, a6⟩ W0 at1 af ar N c1 M c2 R c3 rm up).mono ?_
  rintro e w1 ⟨rfl, t1⟩
  have H1 := Lib.hid (And.intro (HB.out.1.trans t1) (blk_touch HB.out.2 t1 (fun x => x)))
  clear t1 HB y0 y1 y2 y3 y4 y5 y6 y7 y8 y9 ya yb
  cases hgt : (decide (30 < N) || decide (40 < M) || decide (40 < R)) with
  | true =>
    go_wp2_with (go_at_call 27; fail)
    refine (law19_awake w1 (HL.out.1.old H1.out.1)).mono ?_
    rintro e w2 ⟨rfl, t2⟩
    have H2 := Lib.hid ((H1.out.1.trans t2).below)
    clear t2
    go_wp2
    go_ret
    exact ⟨rfl, H2.out⟩
  | false =>
    simp only [Bool.or_eq_false_iff, decide_eq_false_iff_not] at hgt
    have HBd := Lib.hid hgt
    clear hgt
    go_wp2_with (go_at_call 27; fail)
    refine (law19_awake w1 (HL.out.1.old H1.out.1)).mono ?_
    rintro e w2 ⟨rfl, t2⟩
    have H2 := Lib.hid (And.intro (H1.out.1.trans t2) (blk_touch H1.out.2 t2 (fun x => x)))
    obtain ⟨y0, y1, y2, y3, y4, y5, y6, y7, y8, y9, ya, yb⟩ := box12 H2.out.2
    clear t2
    go_wp2_with (go_at_call 28; fail)
    obtain ⟨c, hc⟩ : ∃ c, little ⟨a0, a1, a2, a3, a4, a5, a6⟩ = c := ⟨_, rfl⟩
    have hpt := law19_parts ⟨a0, a1, a2, a3, a4, a5, a6⟩ c hc _ _ _ ths ks ls rm up w2 (HL.out.1.old H2.out.1) (HL.out.2.touch H2.out.1 (fun x => x)) (HG.out.1.old H2.out.1) (HG.out.2.1.old H2.out.1) (HG.out.2.2.1.old H2.out.1) (fun j hj => bounds_u8 (HG.out.2.2.2.1 j hj)) (fun j hj => bounds_u8 (HG.out.2.2.2.2.1 j hj)) (by have h1 := HBd.out; have h2 := HLn.out.2.1; omega) (by have h1 := HBd.out; have h2 := HLn.out.2.2; omega) HG.out.2.2.2.2.2
    rw [HLn.out.1, HLn.out.2.1, HLn.out.2.2] at hpt
    refine hpt.mono ?_
    rintro e w3 ⟨A, p, q, f, rfl, W1, S, H, bs, xs, t3, hP, hbm, hxm, hxl, hol⟩
    obtain ⟨r6, hr6⟩ : ∃ r, rm % 6 = r := ⟨_, rfl⟩
    rw [hr6] at hP
    have HR6 := Lib.hid (And.intro hr6 HG.out.2.2.2.2.2)
    have H3 := Lib.hid (And.intro (H2.out.1.trans t3) (And.intro hP (And.intro hbm (And.intro hxm (And.intro hxl (And.intro hol ((HL.out.2.touch H2.out.1 (fun x => x)).touch t3 (fun x => x))))))))
    have HBX : Hid (∀ wr, Touch nob W1 wr → wr.heap[b0]? = some (Obj.cells (CsR ⟨a0, a1, a2, a3, a4, a5, a6⟩ (.slice at1 N c1) (.slice af M c2) (.slice ar R c3) rm up) 54)) := fun wr ht => blk_touch H2.out.2 (t3.trans ht) (fun x => x)
    clear t3 hP hbm hxm hxl hol hc hpt hr6 y0 y1 y2 y3 y4 y5 y6 y7 y8 y9 ya yb
    go_wp2_with (go_at_call 29; fail)
    refine (note_New_ok A.h p q f w3).mono ?_
    rintro e w4 ⟨n, rfl, hn4, t4, hb4⟩
    have HN4 := Lib.hid (H3.out.2.1.nt t4 hn4 hb4)
    clear hn4 t4 hb4
    go_wp2_with (go_at_call 36; fail)
    refine (law19_colors HN4.out.hp (H3.out.2.2.2.2.2.2.touch HN4.out.hp.at'.base (fun x => x)) (Nat.le_trans H3.out.2.2.2.2.2.1 (by decide))).mono ?_
    rintro e w5 ⟨va, vc, rfl, t5, h5, oa, oc⟩
    have HN5 := Lib.hid (HN4.out.heap t5 h5)
    have HO5 := Lib.hid (And.intro oa (And.intro oc t5.size))
    clear t5 h5 oa oc
    go_wp2_with (go_at_call 30; fail)
    obtain ⟨u5, hb5, -⟩ := HN5.out.buf
    refine (buf_All2 hb5).mono ?_
    rintro e w6 ⟨v6, rfl, t6, hs6, hB6⟩
    have H6 := Lib.hid (And.intro (HN5.out.old t6) (And.intro hs6 (And.intro (show ∀ b, v6.ownBlock = some b → w5.heap.size ≤ b from fun b hb => (hB6 b hb).resolve_left (fun e => by cases e)) t6)))
    clear t6 hs6 hB6 hb5
    go_wp2_with (go_at_call 37; fail)
    obtain ⟨y6, hx6, -⟩ := H6.out.1.box
    refine (box_Len hx6).mono ?_
    rintro e w7 ⟨rfl, rfl⟩
    clear hx6
    obtain ⟨X, hX⟩ : ∃ X, xs.length = X := ⟨_, rfl⟩
    rw [hX]
    have HX := Lib.hid hX
    clear hX
    go_wp2_with (go_at_call 38; fail)
    refine (note_Once .nilFunc (.inl rfl) w6).mono ?_
    rintro e w8 ⟨bO, rfl, hbO, t8, hO⟩
    have HN8 := Lib.hid (And.intro (H6.out.1.old t8) (And.intro hO (And.intro hbO t8)))
    clear hbO t8 hO
    go_wp2_with (go_at_call 43; fail)
    refine (does_pour (m := 1) (I := fun _ => True) (Q := fun w' => NtR W1 A c H n p q f (1 + r6) (pourR S 1 bs xs up) w' ∧ Touch (NoT A p q f) w8 w') (.inr ⟨_, _, rfl⟩) HN8.out.1 (fun _ _ _ => trivial) (fun w' ht hN' => does_once (blk_touch HN8.out.2.1 ht (nt_keep H6.out.1 HN8.out.2.2.1)) trivial ⟨hN', ht⟩)).mono ?_
    rintro e w9 ⟨sv, rfl, t9, hD⟩
    have HD := Lib.hid hD
    clear t9 hD
    go_wp2_with (go_at_call 31; fail)
    have hKb : 1 + pourK S 1 bs xs ≤ 1000 := by
      have h1 := HN8.out.1.ln
      unfold pourK
      split
      · omega
      · split
        · omega
        · split <;> omega
    refine (note_Run (1 + pourK S 1 bs xs) 1000 sv HD.out (by omega)).mono ?_
    rintro e w10 ⟨T, rfl, hT, -, hQ⟩
    obtain rfl : T = 1 + pourK S 1 bs xs := by omega
    rw [decide_eq_true rfl]
    obtain ⟨T, hT2⟩ : ∃ T, 1 + pourK S 1 bs xs = T := ⟨_, rfl⟩
    rw [hT2]
    obtain ⟨hN10, t10⟩ := hQ rfl
    have oa10 : Ow w10 w4.heap.size va S.objs := (HO5.out.1.touch (H6.out.2.2.2.trans HN8.out.2.2.2) (fun _ _ x => x)).touch t10 (fun g hg => nt_keep HN4.out (HO5.out.1.new g hg))
    have oc10 : Ow w10 w4.heap.size vc (S.objs.map S.colV) := (HO5.out.2.1.touch (H6.out.2.2.2.trans HN8.out.2.2.2) (fun _ _ x => x)).touch t10 (fun g hg => nt_keep HN4.out (HO5.out.2.1.new g hg))
    have os10 : SlAt w10 v6 bs := (H6.out.2.1.old HN8.out.2.2.2).touch t10 (fun g hg => nt_keep HN5.out (H6.out.2.2.1 g hg))
    have HKb := Lib.hid hKb
    have H10 := Lib.hid (And.intro hN10 (And.intro oa10 (And.intro oc10 (And.intro os10 hT2))))
    clear hKb hT hQ hN10 t10 oa10 oc10 os10 hT2
    go_wp2_with (go_at_call 40; fail)
    have hmb : ∀ z, z ∈ bs → S.obj z = true := fun z hz => mem_objs.1 (H3.out.2.2.1 z hz)
    refine (law19_poured (col := 1) S.colV H10.out.2.1.ints H10.out.2.2.1.ints (sl_ints H10.out.2.2.2.1) (Nat.le_trans H3.out.2.2.2.2.2.1 (by decide)) (by rw [List.length_map]) (by have := HN8.out.1.ln; omega) H3.out.2.2.1 (fun j hj => by rw [List.getD_eq_getElem?_getD, List.getD_eq_getElem?_getD, List.getElem?_map, List.getElem?_eq_getElem hj]; rfl) X (by have h1 := HX.out; have h2 := H3.out.2.2.2.2.1; omega)).mono ?_
    rintro e w11 ⟨vf, F, k', rfl, t11, oF, hFl, hPw⟩
    rw [← HX.out] at hPw
    have hpl := pour_plain (up := up) (by decide) hmb hPw
    obtain ⟨af2, cf2, rfl⟩ := oF.ints.shape
    obtain ⟨l, hl⟩ : ∃ l, F.length = l := ⟨_, rfl⟩
    rw [hl]
    obtain ⟨S2, hS2⟩ : ∃ S2, (pourR S 1 bs xs up).1 = S2 := ⟨_, rfl⟩
    obtain ⟨xs2, hxs2⟩ : ∃ xs2, (pourR S 1 bs xs up).2.2.1 = xs2 := ⟨_, rfl⟩
    obtain ⟨up2, hup2⟩ : ∃ up2, (pourR S 1 bs xs up).2.2.2 = up2 := ⟨_, rfl⟩
    have hN11 := H10.out.1.old t11
    unfold NtR at hN11
    rw [pourR_nil, hS2, hxs2, hup2] at hN11
    rw [hS2, hxs2, hup2] at hpl
    have HN11 := Lib.hid hN11
    have H11 := Lib.hid (And.intro (H10.out.2.1.touch t11 (fun _ _ x => x)) (And.intro (H10.out.2.2.1.touch t11 (fun _ _ x => x)) (And.intro (H10.out.2.2.2.1.old t11) (And.intro oF (And.intro hl (And.intro hFl (And.intro hpl H10.out.2.2.2.2)))))))
    clear hPw hpl t11 oF hFl hl hN11 hS2 hxs2 hup2 hmb
    have hpk := H11.out.2.2.2.2.2.2.1
    have hTk : T = 1 + k' := by rw [← hpk.1]; exact H11.out.2.2.2.2.2.2.2.symm
    have hk1 : 1 + k' ≤ 1000 := by rw [← hpk.1]; exact HKb.out
    have hT3 : ((T : Nat) : Int) = (k' : Int) + 1 := by omega
    rw [hT3]
    have hwk : IntKind.i64.wrap ((k' : Int) + 1) = (k' : Int) + 1 := IntWalk.i64_in _ (by omega)
    have hup2 : up2 = (up || decide (l ≠ 0)) := by
      rw [hpk.2.1]
      congr 1
      rw [decide_eq_decide, ← H11.out.2.2.2.2.1]
      exact not_congr List.length_eq_zero_iff.symm
    have HPt := Lib.hid (fun wr (ht : Touch nob w11 wr) => law19_painted (col := 1) (HN11.out.hp.old ht) (H11.out.1.touch ht (fun _ _ x => x)).ints (H11.out.2.1.touch ht (fun _ _ x => x)).ints (H11.out.2.2.2.1.touch ht (fun _ _ x => x)).ints (Nat.le_trans H3.out.2.2.2.2.2.1 (by decide)) (by rw [List.length_map]) (by have h1 := H11.out.2.2.2.2.2.1; have h2 := HN8.out.1.ln; omega) (fun j hj => by
      have hm : S.obj (S.objs.getD j 0) = true := mem_objs.1 (by rw [List.getD_eq_getElem?_getD, List.getElem?_eq_getElem hj]; exact List.getElem_mem _)
      refine ⟨?_, ?_⟩
      · unfold HS.colE
        rw [if_pos (by rw [H11.out.2.2.2.2.2.2.1.2.2.2.1]; exact hm)]
      · rw [H11.out.2.2.2.2.2.2.1.2.2.2.2 _ hm]
        congr 1
        rw [List.getD_eq_getElem?_getD, List.getD_eq_getElem?_getD, List.getElem?_map, List.getElem?_eq_getElem hj]
        rfl))
    rw [H11.out.2.2.2.2.1] at HPt
    have HLb : Hid (∀ wr, Touch nob w11 wr → Calls Tryz.prog 33 #[pt p] wr fun e w' => e = .returned (.int .i64 0) ∧ wr = w') := fun wr ht => by
      obtain ⟨u, h1, -⟩ := (HN11.out.old ht).buf
      exact buf_Len h1
    have HDr : Hid (Touch nob w11 w11.drew) := Touch.drew (Touch.refl _ _)
    have HC := Lib.hid (fun wr (ht : Touch nob w11 wr) => show wr.cell? ⟨b0, 11, none⟩ = some (.bool up) from (box12 (HBX.out wr (HN11.out.hp.at'.base.trans ht))).2.2.2.2.2.2.2.2.2.2.2)
    clear hpk hTk hT3
    have hU2 := hU.out
    subst hU2
    by_cases hl0 : l = 0
    all_goals
      first
      | (have hlb : ¬ (0 : Int) < (l : Int) := by omega)
      | (have hlb : (0 : Int) < (l : Int) := (by omega); have hlbn : 0 < l := (by omega))
      first
      | rw [decide_eq_true (show l ≠ 0 from hl0)] at hup2
      | rw [decide_eq_false (show ¬ l ≠ 0 from fun h => h hl0)] at hup2
      have HU := Lib.hid HN11.out.fl
      rw [hup2] at HU
      try rw [Bool.false_or] at HU
      try rw [Bool.true_or] at HU
      clear hup2
      try subst hl0
      go_wp2_with fail
      have k11 := cell_regrown (HC.out w11 (Touch.refl _ _))
      have d1 := fun d os => Calls.regrown_of ((HPt.out (grow (redrawn w11 d) os) (Touch.of_below (S := nob) (below_regrown w11 d os))).mono fun _ _ h => ⟨h.1, h.2.below⟩)
      have d2 := fun d os => Calls.regrown_of ((flag_Up f _ (blk_touch HU.out (Touch.of_below (S := nob) (below_regrown w11 d os)) (fun x => x))).mono fun _ _ h => ⟨h.1, h.2 ▸ (Touch.refl nob _).below⟩)
      have d3 := fun d os => Calls.regrown_of ((HLb.out (grow (redrawn w11 d) os) (Touch.of_below (S := nob) (below_regrown w11 d os))).mono fun _ _ h => ⟨h.1, h.2 ▸ (Touch.refl nob _).below⟩)
      refine wp_region_quiet_below (by kernel_rfl) (by kernel_rfl) ?_
      repeat (go_big_quiet_step (first | (go_at_call 42; exact d1 _ _) | (go_at_call 41; exact d2 _ _) | (go_at_call 33; exact d3 _ _)))
      refine wpQuiet_nil ?_
      intro w12 hw'
      obtain ⟨⟨dr, osr⟩, hw''⟩ := hw'
      simp only at hw''
      have HP : Hid (Touch nob w11 w12) := by show Touch nob w11 w12; rw [hw'']; exact Touch.of_below (below_regrown w11 dr osr)
      clear hw'' d1 d2 d3 k11
      have HN12 := Lib.hid (HN11.out.old HP.out)
      have HS12 := Lib.hid (H11.out.2.2.1.old HP.out)
      have hxs := H11.out.2.2.2.2.2.2.1.2.2.1
      by_cases hX0 : X = 0
      · have hXb : ¬ (0 : Int) < (X : Int) := by omega
        have hxn : xs = [] := List.length_eq_zero_iff.1 (HX.out.trans hX0)
        rw [if_pos hxn] at hxs
        rw [hxs] at HN12
        clear hxn hxs
        obtain ⟨L, hL⟩ : ∃ L, bs.length = L := ⟨_, rfl⟩
        have HLl := Lib.hid hL
        obtain ⟨a6, c6, e6⟩ := (sl_ints HS12.out).shape
        rw [hL] at e6
        subst e6
        clear hL
        have HI0 : Hid (∃ y, BoxAt w12 q y (bs.drop 0) ∧ SlAt w12 (.slice a6 L c6) bs ∧ Touch nob W1 w12) := by
          obtain ⟨y, hy, -⟩ := HN12.out.box
          exact ⟨y, hy, HS12.out, HN12.out.hp.at'.base⟩
        have hLb : L ≤ 256 := by have h1 := HN8.out.1.ln; have h2 := HLl.out; omega
        have hqn := Lib.hid (HN12.out.no q (.inr (.inr (.inl rfl)))).2
        go_wp2_with fail
        go_loopw [20] (fun iv wr => ∃ j : Nat, j ≤ L ∧ iv = .int .i64 j ∧ Hid (∃ y, BoxAt wr q y (bs.drop j) ∧ SlAt wr (.slice a6 L c6) bs ∧ Touch nob W1 wr)) (fun iv _ => L - (intOf iv).toNat)
        case atStart => exact ⟨0, Nat.zero_le _, rfl, HI0.out⟩
        case round =>
          obtain ⟨j, hj, rfl, HI⟩ := hrel
          by_cases hlt : j < L
          · have hb : (j : Int) < (L : Int) := by omega
            obtain ⟨y, h1, h2, h3⟩ := HI.out
            have hdr : bs.drop j = bs.getD j 0 :: bs.drop (j + 1) := by
              rw [List.drop_eq_getElem_cons (by rw [HLl.out]; exact hlt)]
              congr 1
              rw [List.getD_eq_getElem?_getD, List.getElem?_eq_getElem (by rw [HLl.out]; exact hlt)]
              rfl
            rw [hdr] at h1
            obtain ⟨x, hx⟩ : ∃ x, bs.getD j 0 = x := ⟨_, rfl⟩
            rw [hx] at h1
            have HX2 := Lib.hid (And.intro h1 (And.intro h2 (And.intro h3 hx)))
            clear hdr h1 h2 h3 hx HI
            go_wp2_with (go_at_call 34; fail)
            refine (box_Next_ok HX2.out.1).mono ?_
            rintro e w13 ⟨rfl, t13, v13, hb13, -⟩
            have hs13 := HX2.out.2.1.touch t13 (fun b hb => HX2.out.2.1.ne HX2.out.1.box HX2.out.1.ty b hb)
            obtain ⟨g6, o6, p6, e6, hc6, hcl6⟩ := (sl_ints hs13).at (k := j) (by rw [HLl.out]; exact hlt)
            rw [HLl.out] at e6 hc6
            injection e6 with z1 z2 z3
            subst z1 z3
            rw [HX2.out.2.2.2] at hcl6
            have H13 : Hid (∃ y, BoxAt w13 q y (bs.drop (j + 1)) ∧ SlAt w13 (.slice (some ⟨g6, o6, none⟩) L c6) bs ∧ Touch nob W1 w13) := ⟨_, hb13, hs13, HX2.out.2.2.1.step t13 (fun b hb => .inr ((show b = q from hb) ▸ hqn.out))⟩
            clear hs13 hb13 t13 z2
            go_wp2_with fail
            go_roundw
            case rel => exact ⟨j + 1, by omega, by go_num, H13.out⟩
            case measure => simp [intOf]; omega
          · obtain rfl : j = L := by omega
            have hb : ¬ (j : Int) < (j : Int) := by omega
            obtain ⟨y, h1, h2, h3⟩ := HI.out
            rw [List.drop_of_length_le (Nat.le_of_eq HLl.out)] at h1
            have HX2 := Lib.hid (And.intro h1 h3)
            clear h1 h2 h3 HI
            go_wp2_with (go_at_call 37; fail)
            refine (box_Len HX2.out.1).mono ?_
            rintro e w13 ⟨rfl, rfl⟩
            rw [List.length_nil]
            go_wp2
            go_ret
            exact ⟨rfl, (H3.out.1.trans HX2.out.2).below⟩
      · have hXb : (0 : Int) < (X : Int) := by omega
        have hxn : ¬ xs = [] := fun e => hX0 (by rw [← HX.out, e]; rfl)
        rw [if_neg hxn] at hxs
        rw [hxs] at HN12
        clear hxn hxs
        go_wp2_with (go_at_call 37; fail)
        obtain ⟨y, hy, -⟩ := HN12.out.box
        refine (box_Len hy).mono ?_
        rintro e w13 ⟨rfl, rfl⟩
        rw [HX.out]
        clear hy
        go_wp2
        go_ret
        exact ⟨by first | rfl | exact ret_b (by simp), (H3.out.1.trans HN12.out.hp.at'.base).below⟩
set_option maxRecDepth 20000 in
set_option maxHeartbeats 4000000 in
theorem npours_false_true {w : World} (a0 a1 a2 a3 a4 a5 a6 : Int) (th : Value) (r1 : List (List Value)) (s1 : IsSlice w th [some .u8, some .u8, none] r1) (bf : Value) (r2 : List (List Value)) (s2 : IsSlice w bf [some .u8] r2) (bx : Value) (r3 : List (List Value)) (s3 : IsSlice w bx [some .u8] r3) (rm : Int) (hq0 : (Lit.int .u8 rm).wf = true) (up : Bool) (hU : Hid (up = true)) (hTab : Tab w) (hLim : Limits w) (hS : Sizes w) :
    Calls Tryz.prog 7 #[CsV ⟨a0, a1, a2, a3, a4, a5, a6⟩ th bf bx rm up, .bool false] w fun e w' => e = .returned (.bool true) ∧ Below w.heap.size w w' := by
  obtain ⟨N0, hI0, -⟩ := rows_of_slice s1 (by simp)
  obtain ⟨ths, -, hth⟩ := ThIn.of_rows hI0
  obtain ⟨ks, hbf, -, hkb⟩ := k_of_slice s2
  obtain ⟨ls, hbx, -, hlb⟩ := k_of_slice s3
  have hrm := bounds_u8 hq0
  obtain ⟨at1, c1, rfl, -⟩ := id hth
  obtain ⟨af, c2, rfl⟩ := hbf.shape
  obtain ⟨ar, c3, rfl⟩ := hbx.shape
  obtain ⟨N, hN⟩ : ∃ N, ths.length = N := ⟨_, rfl⟩
  obtain ⟨M, hM⟩ : ∃ M, ks.length = M := ⟨_, rfl⟩
  obtain ⟨R, hR⟩ : ∃ R, ls.length = R := ⟨_, rfl⟩
  have HG := Lib.hid (And.intro hth (And.intro hbf (And.intro hbx (And.intro hkb (And.intro hlb hrm)))))
  have HLn := Lib.hid (And.intro hN (And.intro hM hR))
  have HL := Lib.hid (And.intro (Laid.mk hLim hS) hTab)
  rw [hN, hM, hR]
  clear hth hbf hbx hkb hlb hI0 s1 s2 s3 hLim hS hTab hN hM hR hq0 hrm
  go_enter Tryz.func7, Tryz.ntmps7
  go_wp2_with fail
  obtain ⟨W0, hW⟩ : ∃ W, W = w.alloc (Obj.cells (CsR ⟨a0, a1, a2, a3, a4, a5, a6⟩ (.slice at1 N c1) (.slice af M c2) (.slice ar R c3) rm up) 54) := ⟨_, rfl⟩
  have hT : Touch nob w W0 := by rw [hW]; (repeat (first | with_reducible exact Touch.refl _ _ | with_reducible assumption | with_reducible apply Touch.alloc | with_reducible apply Touch.drewN | with_reducible apply Touch.drew | with_reducible refine Touch.setCell ?_ (.inr (by first | omega | (simp; done) | (simp; omega))) _))
  obtain ⟨b0, hb0⟩ : ∃ b, b = w.heap.size := ⟨_, rfl⟩
  rw [← hW, ← hb0]
  have hbx : W0.heap[b0]? = some (Obj.cells (CsR ⟨a0, a1, a2, a3, a4, a5, a6⟩ (.slice at1 N c1) (.slice af M c2) (.slice ar R c3) rm up) 54) := by rw [hW, hb0]; exact World.alloc_heap_new w _
  have HB := Lib.hid (And.intro hT hbx)
  clear hW hb0 hT hbx
  obtain ⟨y0, y1, y2, y3, y4, y5, y6, y7, y8, y9, ya, yb⟩ := box12 HB.out.2
  go_wp2_with (go_at_call 26; fail)
  refine (law19_great ⟨a0, a1, a2, a3, a4, a5, a6⟩ W0 at1 af ar N c1 M c2 R c3 rm up).mono ?_
  rintro e w1 ⟨rfl, t1⟩
  have H1 := Lib.hid (And.intro (HB.out.1.trans t1) (blk_touch HB.out.2 t1 (fun x => x)))
  clear t1 HB y0 y1 y2 y3 y4 y5 y6 y7 y8 y9 ya yb
  cases hgt : (decide (30 < N) || decide (40 < M) || decide (40 < R)) with
  | true =>
    go_wp2_with (go_at_call 27; fail)
    refine (law19_awake w1 (HL.out.1.old H1.out.1)).mono ?_
    rintro e w2 ⟨rfl, t2⟩
    have H2 := Lib.hid ((H1.out.1.trans t2).below)
    clear t2
    go_wp2
    go_ret
    exact ⟨rfl, H2.out⟩
  | false =>
    simp only [Bool.or_eq_false_iff, decide_eq_false_iff_not] at hgt
    have HBd := Lib.hid hgt
    clear hgt
    go_wp2_with (go_at_call 27; fail)
    refine (law19_awake w1 (HL.out.1.old H1.out.1)).mono ?_
    rintro e w2 ⟨rfl, t2⟩
    have H2 := Lib.hid (And.intro (H1.out.1.trans t2) (blk_touch H1.out.2 t2 (fun x => x)))
    obtain ⟨y0, y1, y2, y3, y4, y5, y6, y7, y8, y9, ya, yb⟩ := box12 H2.out.2
    clear t2
    go_wp2_with (go_at_call 28; fail)
    obtain ⟨c, hc⟩ : ∃ c, little ⟨a0, a1, a2, a3, a4, a5, a6⟩ = c := ⟨_, rfl⟩
    have hpt := law19_parts ⟨a0, a1, a2, a3, a4, a5, a6⟩ c hc _ _ _ ths ks ls rm up w2 (HL.out.1.old H2.out.1) (HL.out.2.touch H2.out.1 (fun x => x)) (HG.out.1.old H2.out.1) (HG.out.2.1.old H2.out.1) (HG.out.2.2.1.old H2.out.1) (fun j hj => bounds_u8 (HG.out.2.2.2.1 j hj)) (fun j hj => bounds_u8 (HG.out.2.2.2.2.1 j hj)) (by have h1 := HBd.out; have h2 := HLn.out.2.1; omega) (by have h1 := HBd.out; have h2 := HLn.out.2.2; omega) HG.out.2.2.2.2.2
    rw [HLn.out.1, HLn.out.2.1, HLn.out.2.2] at hpt
    refine hpt.mono ?_
    rintro e w3 ⟨A, p, q, f, rfl, W1, S, H, bs, xs, t3, hP, hbm, hxm, hxl, hol⟩
    obtain ⟨r6, hr6⟩ : ∃ r, rm % 6 = r := ⟨_, rfl⟩
    rw [hr6] at hP
    have HR6 := Lib.hid (And.intro hr6 HG.out.2.2.2.2.2)
    have H3 := Lib.hid (And.intro (H2.out.1.trans t3) (And.intro hP (And.intro hbm (And.intro hxm (And.intro hxl (And.intro hol ((HL.out.2.touch H2.out.1 (fun x => x)).touch t3 (fun x => x))))))))
    have HBX : Hid (∀ wr, Touch nob W1 wr → wr.heap[b0]? = some (Obj.cells (CsR ⟨a0, a1, a2, a3, a4, a5, a6⟩ (.slice at1 N c1) (.slice af M c2) (.slice ar R c3) rm up) 54)) := fun wr ht => blk_touch H2.out.2 (t3.trans ht) (fun x => x)
    clear t3 hP hbm hxm hxl hol hc hpt hr6 y0 y1 y2 y3 y4 y5 y6 y7 y8 y9 ya yb
    go_wp2_with (go_at_call 29; fail)
    refine (note_New_ok A.h p q f w3).mono ?_
    rintro e w4 ⟨n, rfl, hn4, t4, hb4⟩
    have HN4 := Lib.hid (H3.out.2.1.nt t4 hn4 hb4)
    clear hn4 t4 hb4
    go_wp2_with (go_at_call 36; fail)
    refine (law19_colors HN4.out.hp (H3.out.2.2.2.2.2.2.touch HN4.out.hp.at'.base (fun x => x)) (Nat.le_trans H3.out.2.2.2.2.2.1 (by decide))).mono ?_
    rintro e w5 ⟨va, vc, rfl, t5, h5, oa, oc⟩
    have HN5 := Lib.hid (HN4.out.heap t5 h5)
    have HO5 := Lib.hid (And.intro oa (And.intro oc t5.size))
    clear t5 h5 oa oc
    go_wp2_with (go_at_call 30; fail)
    obtain ⟨u5, hb5, -⟩ := HN5.out.buf
    refine (buf_All2 hb5).mono ?_
    rintro e w6 ⟨v6, rfl, t6, hs6, hB6⟩
    have H6 := Lib.hid (And.intro (HN5.out.old t6) (And.intro hs6 (And.intro (show ∀ b, v6.ownBlock = some b → w5.heap.size ≤ b from fun b hb => (hB6 b hb).resolve_left (fun e => by cases e)) t6)))
    clear t6 hs6 hB6 hb5
    go_wp2_with (go_at_call 37; fail)
    obtain ⟨y6, hx6, -⟩ := H6.out.1.box
    refine (box_Len hx6).mono ?_
    rintro e w7 ⟨rfl, rfl⟩
    clear hx6
    obtain ⟨X, hX⟩ : ∃ X, xs.length = X := ⟨_, rfl⟩
    rw [hX]
    have HX := Lib.hid hX
    clear hX
    go_wp2_with (go_at_call 38; fail)
    refine (note_Once .nilFunc (.inl rfl) w6).mono ?_
    rintro e w8 ⟨bO, rfl, hbO, t8, hO⟩
    have HN8 := Lib.hid (And.intro (H6.out.1.old t8) (And.intro hO (And.intro hbO t8)))
    clear hbO t8 hO
    go_wp2_with (go_at_call 43; fail)
    refine (does_pour (m := 1) (I := fun _ => True) (Q := fun w' => NtR W1 A c H n p q f (1 + r6) (pourR S 0 bs xs up) w' ∧ Touch (NoT A p q f) w8 w') (.inr ⟨_, _, rfl⟩) HN8.out.1 (fun _ _ _ => trivial) (fun w' ht hN' => does_once (blk_touch HN8.out.2.1 ht (nt_keep H6.out.1 HN8.out.2.2.1)) trivial ⟨hN', ht⟩)).mono ?_
    rintro e w9 ⟨sv, rfl, t9, hD⟩
    have HD := Lib.hid hD
    clear t9 hD
    go_wp2_with (go_at_call 31; fail)
    have hKb : 1 + pourK S 0 bs xs ≤ 1000 := by
      have h1 := HN8.out.1.ln
      unfold pourK
      split
      · omega
      · split
        · omega
        · split <;> omega
    refine (note_Run (1 + pourK S 0 bs xs) 1000 sv HD.out (by omega)).mono ?_
    rintro e w10 ⟨T, rfl, hT, -, hQ⟩
    obtain rfl : T = 1 + pourK S 0 bs xs := by omega
    rw [decide_eq_true rfl]
    obtain ⟨T, hT2⟩ : ∃ T, 1 + pourK S 0 bs xs = T := ⟨_, rfl⟩
    rw [hT2]
    obtain ⟨hN10, t10⟩ := hQ rfl
    have oa10 : Ow w10 w4.heap.size va S.objs := (HO5.out.1.touch (H6.out.2.2.2.trans HN8.out.2.2.2) (fun _ _ x => x)).touch t10 (fun g hg => nt_keep HN4.out (HO5.out.1.new g hg))
    have oc10 : Ow w10 w4.heap.size vc (S.objs.map S.colV) := (HO5.out.2.1.touch (H6.out.2.2.2.trans HN8.out.2.2.2) (fun _ _ x => x)).touch t10 (fun g hg => nt_keep HN4.out (HO5.out.2.1.new g hg))
    have os10 : SlAt w10 v6 bs := (H6.out.2.1.old HN8.out.2.2.2).touch t10 (fun g hg => nt_keep HN5.out (H6.out.2.2.1 g hg))
    have HKb := Lib.hid hKb
    have H10 := Lib.hid (And.intro hN10 (And.intro oa10 (And.intro oc10 (And.intro os10 hT2))))
    clear hKb hT hQ hN10 t10 oa10 oc10 os10 hT2
    go_wp2_with (go_at_call 40; fail)
    have hmb : ∀ z, z ∈ bs → S.obj z = true := fun z hz => mem_objs.1 (H3.out.2.2.1 z hz)
    refine (law19_poured (col := 0) S.colV H10.out.2.1.ints H10.out.2.2.1.ints (sl_ints H10.out.2.2.2.1) (Nat.le_trans H3.out.2.2.2.2.2.1 (by decide)) (by rw [List.length_map]) (by have := HN8.out.1.ln; omega) H3.out.2.2.1 (fun j hj => by rw [List.getD_eq_getElem?_getD, List.getD_eq_getElem?_getD, List.getElem?_map, List.getElem?_eq_getElem hj]; rfl) X (by have h1 := HX.out; have h2 := H3.out.2.2.2.2.1; omega)).mono ?_
    rintro e w11 ⟨vf, F, k', rfl, t11, oF, hFl, hPw⟩
    rw [← HX.out] at hPw
    have hpl := pour_plain (up := up) (by decide) hmb hPw
    obtain ⟨af2, cf2, rfl⟩ := oF.ints.shape
    obtain ⟨l, hl⟩ : ∃ l, F.length = l := ⟨_, rfl⟩
    rw [hl]
    obtain ⟨S2, hS2⟩ : ∃ S2, (pourR S 0 bs xs up).1 = S2 := ⟨_, rfl⟩
    obtain ⟨xs2, hxs2⟩ : ∃ xs2, (pourR S 0 bs xs up).2.2.1 = xs2 := ⟨_, rfl⟩
    obtain ⟨up2, hup2⟩ : ∃ up2, (pourR S 0 bs xs up).2.2.2 = up2 := ⟨_, rfl⟩
    have hN11 := H10.out.1.old t11
    unfold NtR at hN11
    rw [pourR_nil, hS2, hxs2, hup2] at hN11
    rw [hS2, hxs2, hup2] at hpl
    have HN11 := Lib.hid hN11
    have H11 := Lib.hid (And.intro (H10.out.2.1.touch t11 (fun _ _ x => x)) (And.intro (H10.out.2.2.1.touch t11 (fun _ _ x => x)) (And.intro (H10.out.2.2.2.1.old t11) (And.intro oF (And.intro hl (And.intro hFl (And.intro hpl H10.out.2.2.2.2)))))))
    clear hPw hpl t11 oF hFl hl hN11 hS2 hxs2 hup2 hmb
    have hpk := H11.out.2.2.2.2.2.2.1
    have hTk : T = 1 + k' := by rw [← hpk.1]; exact H11.out.2.2.2.2.2.2.2.symm
    have hk1 : 1 + k' ≤ 1000 := by rw [← hpk.1]; exact HKb.out
    have hT3 : ((T : Nat) : Int) = (k' : Int) + 1 := by omega
    rw [hT3]
    have hwk : IntKind.i64.wrap ((k' : Int) + 1) = (k' : Int) + 1 := IntWalk.i64_in _ (by omega)
    have hup2 : up2 = (up || decide (l ≠ 0)) := by
      rw [hpk.2.1]
      congr 1
      rw [decide_eq_decide, ← H11.out.2.2.2.2.1]
      exact not_congr List.length_eq_zero_iff.symm
    have HPt := Lib.hid (fun wr (ht : Touch nob w11 wr) => law19_painted (col := 0) (HN11.out.hp.old ht) (H11.out.1.touch ht (fun _ _ x => x)).ints (H11.out.2.1.touch ht (fun _ _ x => x)).ints (H11.out.2.2.2.1.touch ht (fun _ _ x => x)).ints (Nat.le_trans H3.out.2.2.2.2.2.1 (by decide)) (by rw [List.length_map]) (by have h1 := H11.out.2.2.2.2.2.1; have h2 := HN8.out.1.ln; omega) (fun j hj => by
      have hm : S.obj (S.objs.getD j 0) = true := mem_objs.1 (by rw [List.getD_eq_getElem?_getD, List.getElem?_eq_getElem hj]; exact List.getElem_mem _)
      refine ⟨?_, ?_⟩
      · unfold HS.colE
        rw [if_pos (by rw [H11.out.2.2.2.2.2.2.1.2.2.2.1]; exact hm)]
      · rw [H11.out.2.2.2.2.2.2.1.2.2.2.2 _ hm]
        congr 1
        rw [List.getD_eq_getElem?_getD, List.getD_eq_getElem?_getD, List.getElem?_map, List.getElem?_eq_getElem hj]
        rfl))
    rw [H11.out.2.2.2.2.1] at HPt
    have HLb : Hid (∀ wr, Touch nob w11 wr → Calls Tryz.prog 33 #[pt p] wr fun e w' => e = .returned (.int .i64 0) ∧ wr = w') := fun wr ht => by
      obtain ⟨u, h1, -⟩ := (HN11.out.old ht).buf
      exact buf_Len h1
    have HDr : Hid (Touch nob w11 w11.drew) := Touch.drew (Touch.refl _ _)
    have HC := Lib.hid (fun wr (ht : Touch nob w11 wr) => show wr.cell? ⟨b0, 11, none⟩ = some (.bool up) from (box12 (HBX.out wr (HN11.out.hp.at'.base.trans ht))).2.2.2.2.2.2.2.2.2.2.2)
    clear hpk hTk hT3
    have hU2 := hU.out
    subst hU2
    by_cases hl0 : l = 0
    all_goals
      first
      | (have hlb : ¬ (0 : Int) < (l : Int) := by omega)
      | (have hlb : (0 : Int) < (l : Int) := (by omega); have hlbn : 0 < l := (by omega))
      first
      | rw [decide_eq_true (show l ≠ 0 from hl0)] at hup2
      | rw [decide_eq_false (show ¬ l ≠ 0 from fun h => h hl0)] at hup2
      have HU := Lib.hid HN11.out.fl
      rw [hup2] at HU
      try rw [Bool.false_or] at HU
      try rw [Bool.true_or] at HU
      clear hup2
      try subst hl0
      go_wp2_with fail
      have k11 := cell_regrown (HC.out w11 (Touch.refl _ _))
      have d1 := fun d os => Calls.regrown_of ((HPt.out (grow (redrawn w11 d) os) (Touch.of_below (S := nob) (below_regrown w11 d os))).mono fun _ _ h => ⟨h.1, h.2.below⟩)
      have d2 := fun d os => Calls.regrown_of ((flag_Up f _ (blk_touch HU.out (Touch.of_below (S := nob) (below_regrown w11 d os)) (fun x => x))).mono fun _ _ h => ⟨h.1, h.2 ▸ (Touch.refl nob _).below⟩)
      have d3 := fun d os => Calls.regrown_of ((HLb.out (grow (redrawn w11 d) os) (Touch.of_below (S := nob) (below_regrown w11 d os))).mono fun _ _ h => ⟨h.1, h.2 ▸ (Touch.refl nob _).below⟩)
      refine wp_region_quiet_below (by kernel_rfl) (by kernel_rfl) ?_
      repeat (go_big_quiet_step (first | (go_at_call 42; exact d1 _ _) | (go_at_call 41; exact d2 _ _) | (go_at_call 33; exact d3 _ _)))
      refine wpQuiet_nil ?_
      intro w12 hw'
      obtain ⟨⟨dr, osr⟩, hw''⟩ := hw'
      simp only at hw''
      have HP : Hid (Touch nob w11 w12) := by show Touch nob w11 w12; rw [hw'']; exact Touch.of_below (below_regrown w11 dr osr)
      clear hw'' d1 d2 d3 k11
      have HN12 := Lib.hid (HN11.out.old HP.out)
      have HS12 := Lib.hid (H11.out.2.2.1.old HP.out)
      have hxs := H11.out.2.2.2.2.2.2.1.2.2.1
      by_cases hX0 : X = 0
      · have hXb : ¬ (0 : Int) < (X : Int) := by omega
        have hxn : xs = [] := List.length_eq_zero_iff.1 (HX.out.trans hX0)
        rw [if_pos hxn] at hxs
        rw [hxs] at HN12
        clear hxn hxs
        obtain ⟨L, hL⟩ : ∃ L, bs.length = L := ⟨_, rfl⟩
        have HLl := Lib.hid hL
        obtain ⟨a6, c6, e6⟩ := (sl_ints HS12.out).shape
        rw [hL] at e6
        subst e6
        clear hL
        have HI0 : Hid (∃ y, BoxAt w12 q y (bs.drop 0) ∧ SlAt w12 (.slice a6 L c6) bs ∧ Touch nob W1 w12) := by
          obtain ⟨y, hy, -⟩ := HN12.out.box
          exact ⟨y, hy, HS12.out, HN12.out.hp.at'.base⟩
        have hLb : L ≤ 256 := by have h1 := HN8.out.1.ln; have h2 := HLl.out; omega
        have hqn := Lib.hid (HN12.out.no q (.inr (.inr (.inl rfl)))).2
        go_wp2_with fail
        go_loopw [20] (fun iv wr => ∃ j : Nat, j ≤ L ∧ iv = .int .i64 j ∧ Hid (∃ y, BoxAt wr q y (bs.drop j) ∧ SlAt wr (.slice a6 L c6) bs ∧ Touch nob W1 wr)) (fun iv _ => L - (intOf iv).toNat)
        case atStart => exact ⟨0, Nat.zero_le _, rfl, HI0.out⟩
        case round =>
          obtain ⟨j, hj, rfl, HI⟩ := hrel
          by_cases hlt : j < L
          · have hb : (j : Int) < (L : Int) := by omega
            obtain ⟨y, h1, h2, h3⟩ := HI.out
            have hdr : bs.drop j = bs.getD j 0 :: bs.drop (j + 1) := by
              rw [List.drop_eq_getElem_cons (by rw [HLl.out]; exact hlt)]
              congr 1
              rw [List.getD_eq_getElem?_getD, List.getElem?_eq_getElem (by rw [HLl.out]; exact hlt)]
              rfl
            rw [hdr] at h1
            obtain ⟨x, hx⟩ : ∃ x, bs.getD j 0 = x := ⟨_, rfl⟩
            rw [hx] at h1
            have HX2 := Lib.hid (And.intro h1 (And.intro h2 (And.intro h3 hx)))
            clear hdr h1 h2 h3 hx HI
            go_wp2_with (go_at_call 34; fail)
            refine (box_Next_ok HX2.out.1).mono ?_
            rintro e w13 ⟨rfl, t13, v13, hb13, -⟩
            have hs13 := HX2.out.2.1.touch t13 (fun b hb => HX2.out.2.1.ne HX2.out.1.box HX2.out.1.ty b hb)
            obtain ⟨g6, o6, p6, e6, hc6, hcl6⟩ := (sl_ints hs13).at (k := j) (by rw [HLl.out]; exact hlt)
            rw [HLl.out] at e6 hc6
            injection e6 with z1 z2 z3
            subst z1 z3
            rw [HX2.out.2.2.2] at hcl6
            have H13 : Hid (∃ y, BoxAt w13 q y (bs.drop (j + 1)) ∧ SlAt w13 (.slice (some ⟨g6, o6, none⟩) L c6) bs ∧ Touch nob W1 w13) := ⟨_, hb13, hs13, HX2.out.2.2.1.step t13 (fun b hb => .inr ((show b = q from hb) ▸ hqn.out))⟩
            clear hs13 hb13 t13 z2
            go_wp2_with fail
            go_roundw
            case rel => exact ⟨j + 1, by omega, by go_num, H13.out⟩
            case measure => simp [intOf]; omega
          · obtain rfl : j = L := by omega
            have hb : ¬ (j : Int) < (j : Int) := by omega
            obtain ⟨y, h1, h2, h3⟩ := HI.out
            rw [List.drop_of_length_le (Nat.le_of_eq HLl.out)] at h1
            have HX2 := Lib.hid (And.intro h1 h3)
            clear h1 h2 h3 HI
            go_wp2_with (go_at_call 37; fail)
            refine (box_Len HX2.out.1).mono ?_
            rintro e w13 ⟨rfl, rfl⟩
            rw [List.length_nil]
            go_wp2
            go_ret
            exact ⟨rfl, (H3.out.1.trans HX2.out.2).below⟩
      · have hXb : (0 : Int) < (X : Int) := by omega
        have hxn : ¬ xs = [] := fun e => hX0 (by rw [← HX.out, e]; rfl)
        rw [if_neg hxn] at hxs
        rw [hxs] at HN12
        clear hxn hxs
        go_wp2_with (go_at_call 37; fail)
        obtain ⟨y, hy, -⟩ := HN12.out.box
        refine (box_Len hy).mono ?_
        rintro e w13 ⟨rfl, rfl⟩
        rw [HX.out]
        clear hy
        go_wp2
        go_ret
        exact ⟨by first | rfl | exact ret_b (by simp), (H3.out.1.trans HN12.out.hp.at'.base).below⟩
set_option maxRecDepth 20000 in
set_option maxHeartbeats 4000000 in
theorem npours_true_true {w : World} (a0 a1 a2 a3 a4 a5 a6 : Int) (th : Value) (r1 : List (List Value)) (s1 : IsSlice w th [some .u8, some .u8, none] r1) (bf : Value) (r2 : List (List Value)) (s2 : IsSlice w bf [some .u8] r2) (bx : Value) (r3 : List (List Value)) (s3 : IsSlice w bx [some .u8] r3) (rm : Int) (hq0 : (Lit.int .u8 rm).wf = true) (up : Bool) (hU : Hid (up = true)) (hTab : Tab w) (hLim : Limits w) (hS : Sizes w) :
    Calls Tryz.prog 7 #[CsV ⟨a0, a1, a2, a3, a4, a5, a6⟩ th bf bx rm up, .bool true] w fun e w' => e = .returned (.bool true) ∧ Below w.heap.size w w' := by
  obtain ⟨N0, hI0, -⟩ := rows_of_slice s1 (by simp)
  obtain ⟨ths, -, hth⟩ := ThIn.of_rows hI0
  obtain ⟨ks, hbf, -, hkb⟩ := k_of_slice s2
  obtain ⟨ls, hbx, -, hlb⟩ := k_of_slice s3
  have hrm := bounds_u8 hq0
  obtain ⟨at1, c1, rfl, -⟩ := id hth
  obtain ⟨af, c2, rfl⟩ := hbf.shape
  obtain ⟨ar, c3, rfl⟩ := hbx.shape
  obtain ⟨N, hN⟩ : ∃ N, ths.length = N := ⟨_, rfl⟩
  obtain ⟨M, hM⟩ : ∃ M, ks.length = M := ⟨_, rfl⟩
  obtain ⟨R, hR⟩ : ∃ R, ls.length = R := ⟨_, rfl⟩
  have HG := Lib.hid (And.intro hth (And.intro hbf (And.intro hbx (And.intro hkb (And.intro hlb hrm)))))
  have HLn := Lib.hid (And.intro hN (And.intro hM hR))
  have HL := Lib.hid (And.intro (Laid.mk hLim hS) hTab)
  rw [hN, hM, hR]
  clear hth hbf hbx hkb hlb hI0 s1 s2 s3 hLim hS hTab hN hM hR hq0 hrm
  go_enter Tryz.func7, Tryz.ntmps7
  go_wp2_with fail
  obtain ⟨W0, hW⟩ : ∃ W, W = w.alloc (Obj.cells (CsR ⟨a0, a1, a2, a3, a4, a5, a6⟩ (.slice at1 N c1) (.slice af M c2) (.slice ar R c3) rm up) 54) := ⟨_, rfl⟩
  have hT : Touch nob w W0 := by rw [hW]; (repeat (first | with_reducible exact Touch.refl _ _ | with_reducible assumption | with_reducible apply Touch.alloc | with_reducible apply Touch.drewN | with_reducible apply Touch.drew | with_reducible refine Touch.setCell ?_ (.inr (by first | omega | (simp; done) | (simp; omega))) _))
  obtain ⟨b0, hb0⟩ : ∃ b, b = w.heap.size := ⟨_, rfl⟩
  rw [← hW, ← hb0]
  have hbx : W0.heap[b0]? = some (Obj.cells (CsR ⟨a0, a1, a2, a3, a4, a5, a6⟩ (.slice at1 N c1) (.slice af M c2) (.slice ar R c3) rm up) 54) := by rw [hW, hb0]; exact World.alloc_heap_new w _
  have HB := Lib.hid (And.intro hT hbx)
  clear hW hb0 hT hbx
  obtain ⟨y0, y1, y2, y3, y4, y5, y6, y7, y8, y9, ya, yb⟩ := box12 HB.out.2
  go_wp2_with (go_at_call 26; fail)
  refine (law19_great ⟨a0, a1, a2, a3, a4, a5, a6⟩ W0 at1 af ar N c1 M c2 R c3 rm up).mono ?_
  rintro e w1 ⟨rfl, t1⟩
  have H1 := Lib.hid (And.intro (HB.out.1.trans t1) (blk_touch HB.out.2 t1 (fun x => x)))
  clear t1 HB y0 y1 y2 y3 y4 y5 y6 y7 y8 y9 ya yb
  cases hgt : (decide (30 < N) || decide (40 < M) || decide (40 < R)) with
  | true =>
    go_wp2_with (go_at_call 27; fail)
    refine (law19_awake w1 (HL.out.1.old H1.out.1)).mono ?_
    rintro e w2 ⟨rfl, t2⟩
    have H2 := Lib.hid ((H1.out.1.trans t2).below)
    clear t2
    go_wp2
    go_ret
    exact ⟨rfl, H2.out⟩
  | false =>
    simp only [Bool.or_eq_false_iff, decide_eq_false_iff_not] at hgt
    have HBd := Lib.hid hgt
    clear hgt
    go_wp2_with (go_at_call 27; fail)
    refine (law19_awake w1 (HL.out.1.old H1.out.1)).mono ?_
    rintro e w2 ⟨rfl, t2⟩
    have H2 := Lib.hid (And.intro (H1.out.1.trans t2) (blk_touch H1.out.2 t2 (fun x => x)))
    obtain ⟨y0, y1, y2, y3, y4, y5, y6, y7, y8, y9, ya, yb⟩ := box12 H2.out.2
    clear t2
    go_wp2_with (go_at_call 28; fail)
    obtain ⟨c, hc⟩ : ∃ c, little ⟨a0, a1, a2, a3, a4, a5, a6⟩ = c := ⟨_, rfl⟩
    have hpt := law19_parts ⟨a0, a1, a2, a3, a4, a5, a6⟩ c hc _ _ _ ths ks ls rm up w2 (HL.out.1.old H2.out.1) (HL.out.2.touch H2.out.1 (fun x => x)) (HG.out.1.old H2.out.1) (HG.out.2.1.old H2.out.1) (HG.out.2.2.1.old H2.out.1) (fun j hj => bounds_u8 (HG.out.2.2.2.1 j hj)) (fun j hj => bounds_u8 (HG.out.2.2.2.2.1 j hj)) (by have h1 := HBd.out; have h2 := HLn.out.2.1; omega) (by have h1 := HBd.out; have h2 := HLn.out.2.2; omega) HG.out.2.2.2.2.2
    rw [HLn.out.1, HLn.out.2.1, HLn.out.2.2] at hpt
    refine hpt.mono ?_
    rintro e w3 ⟨A, p, q, f, rfl, W1, S, H, bs, xs, t3, hP, hbm, hxm, hxl, hol⟩
    obtain ⟨r6, hr6⟩ : ∃ r, rm % 6 = r := ⟨_, rfl⟩
    rw [hr6] at hP
    have HR6 := Lib.hid (And.intro hr6 HG.out.2.2.2.2.2)
    have H3 := Lib.hid (And.intro (H2.out.1.trans t3) (And.intro hP (And.intro hbm (And.intro hxm (And.intro hxl (And.intro hol ((HL.out.2.touch H2.out.1 (fun x => x)).touch t3 (fun x => x))))))))
    have HBX : Hid (∀ wr, Touch nob W1 wr → wr.heap[b0]? = some (Obj.cells (CsR ⟨a0, a1, a2, a3, a4, a5, a6⟩ (.slice at1 N c1) (.slice af M c2) (.slice ar R c3) rm up) 54)) := fun wr ht => blk_touch H2.out.2 (t3.trans ht) (fun x => x)
    clear t3 hP hbm hxm hxl hol hc hpt hr6 y0 y1 y2 y3 y4 y5 y6 y7 y8 y9 ya yb
    go_wp2_with (go_at_call 29; fail)
    refine (note_New_ok A.h p q f w3).mono ?_
    rintro e w4 ⟨n, rfl, hn4, t4, hb4⟩
    have HN4 := Lib.hid (H3.out.2.1.nt t4 hn4 hb4)
    clear hn4 t4 hb4
    go_wp2_with (go_at_call 36; fail)
    refine (law19_colors HN4.out.hp (H3.out.2.2.2.2.2.2.touch HN4.out.hp.at'.base (fun x => x)) (Nat.le_trans H3.out.2.2.2.2.2.1 (by decide))).mono ?_
    rintro e w5 ⟨va, vc, rfl, t5, h5, oa, oc⟩
    have HN5 := Lib.hid (HN4.out.heap t5 h5)
    have HO5 := Lib.hid (And.intro oa (And.intro oc t5.size))
    clear t5 h5 oa oc
    go_wp2_with (go_at_call 30; fail)
    obtain ⟨u5, hb5, -⟩ := HN5.out.buf
    refine (buf_All2 hb5).mono ?_
    rintro e w6 ⟨v6, rfl, t6, hs6, hB6⟩
    have H6 := Lib.hid (And.intro (HN5.out.old t6) (And.intro hs6 (And.intro (show ∀ b, v6.ownBlock = some b → w5.heap.size ≤ b from fun b hb => (hB6 b hb).resolve_left (fun e => by cases e)) t6)))
    clear t6 hs6 hB6 hb5
    go_wp2_with (go_at_call 37; fail)
    obtain ⟨y6, hx6, -⟩ := H6.out.1.box
    refine (box_Len hx6).mono ?_
    rintro e w7 ⟨rfl, rfl⟩
    clear hx6
    obtain ⟨X, hX⟩ : ∃ X, xs.length = X := ⟨_, rfl⟩
    rw [hX]
    have HX := Lib.hid hX
    clear hX
    go_wp2_with (go_at_call 38; fail)
    refine (note_Once .nilFunc (.inl rfl) w6).mono ?_
    rintro e w8 ⟨bO, rfl, hbO, t8, hO⟩
    have HN8 := Lib.hid (And.intro (H6.out.1.old t8) (And.intro hO (And.intro hbO t8)))
    clear hbO t8 hO
    go_wp2_with (go_at_call 43; fail)
    refine (does_pour (m := 1) (I := fun _ => True) (Q := fun w' => NtR W1 A c H n p q f (1 + r6) (pourR S 1 bs xs up) w' ∧ Touch (NoT A p q f) w8 w') (.inr ⟨_, _, rfl⟩) HN8.out.1 (fun _ _ _ => trivial) (fun w' ht hN' => does_once (blk_touch HN8.out.2.1 ht (nt_keep H6.out.1 HN8.out.2.2.1)) trivial ⟨hN', ht⟩)).mono ?_
    rintro e w9 ⟨sv, rfl, t9, hD⟩
    have HD := Lib.hid hD
    clear t9 hD
    go_wp2_with (go_at_call 31; fail)
    have hKb : 1 + pourK S 1 bs xs ≤ 1000 := by
      have h1 := HN8.out.1.ln
      unfold pourK
      split
      · omega
      · split
        · omega
        · split <;> omega
    refine (note_Run (1 + pourK S 1 bs xs) 1000 sv HD.out (by omega)).mono ?_
    rintro e w10 ⟨T, rfl, hT, -, hQ⟩
    obtain rfl : T = 1 + pourK S 1 bs xs := by omega
    rw [decide_eq_true rfl]
    obtain ⟨T, hT2⟩ : ∃ T, 1 + pourK S 1 bs xs = T := ⟨_, rfl⟩
    rw [hT2]
    obtain ⟨hN10, t10⟩ := hQ rfl
    have oa10 : Ow w10 w4.heap.size va S.objs := (HO5.out.1.touch (H6.out.2.2.2.trans HN8.out.2.2.2) (fun _ _ x => x)).touch t10 (fun g hg => nt_keep HN4.out (HO5.out.1.new g hg))
    have oc10 : Ow w10 w4.heap.size vc (S.objs.map S.colV) := (HO5.out.2.1.touch (H6.out.2.2.2.trans HN8.out.2.2.2) (fun _ _ x => x)).touch t10 (fun g hg => nt_keep HN4.out (HO5.out.2.1.new g hg))
    have os10 : SlAt w10 v6 bs := (H6.out.2.1.old HN8.out.2.2.2).touch t10 (fun g hg => nt_keep HN5.out (H6.out.2.2.1 g hg))
    have HKb := Lib.hid hKb
    have H10 := Lib.hid (And.intro hN10 (And.intro oa10 (And.intro oc10 (And.intro os10 hT2))))
    clear hKb hT hQ hN10 t10 oa10 oc10 os10 hT2
    go_wp2_with (go_at_call 40; fail)
    have hmb : ∀ z, z ∈ bs → S.obj z = true := fun z hz => mem_objs.1 (H3.out.2.2.1 z hz)
    refine (law19_poured (col := 1) S.colV H10.out.2.1.ints H10.out.2.2.1.ints (sl_ints H10.out.2.2.2.1) (Nat.le_trans H3.out.2.2.2.2.2.1 (by decide)) (by rw [List.length_map]) (by have := HN8.out.1.ln; omega) H3.out.2.2.1 (fun j hj => by rw [List.getD_eq_getElem?_getD, List.getD_eq_getElem?_getD, List.getElem?_map, List.getElem?_eq_getElem hj]; rfl) X (by have h1 := HX.out; have h2 := H3.out.2.2.2.2.1; omega)).mono ?_
    rintro e w11 ⟨vf, F, k', rfl, t11, oF, hFl, hPw⟩
    rw [← HX.out] at hPw
    have hpl := pour_plain (up := up) (by decide) hmb hPw
    obtain ⟨af2, cf2, rfl⟩ := oF.ints.shape
    obtain ⟨l, hl⟩ : ∃ l, F.length = l := ⟨_, rfl⟩
    rw [hl]
    obtain ⟨S2, hS2⟩ : ∃ S2, (pourR S 1 bs xs up).1 = S2 := ⟨_, rfl⟩
    obtain ⟨xs2, hxs2⟩ : ∃ xs2, (pourR S 1 bs xs up).2.2.1 = xs2 := ⟨_, rfl⟩
    obtain ⟨up2, hup2⟩ : ∃ up2, (pourR S 1 bs xs up).2.2.2 = up2 := ⟨_, rfl⟩
    have hN11 := H10.out.1.old t11
    unfold NtR at hN11
    rw [pourR_nil, hS2, hxs2, hup2] at hN11
    rw [hS2, hxs2, hup2] at hpl
    have HN11 := Lib.hid hN11
    have H11 := Lib.hid (And.intro (H10.out.2.1.touch t11 (fun _ _ x => x)) (And.intro (H10.out.2.2.1.touch t11 (fun _ _ x => x)) (And.intro (H10.out.2.2.2.1.old t11) (And.intro oF (And.intro hl (And.intro hFl (And.intro hpl H10.out.2.2.2.2)))))))
    clear hPw hpl t11 oF hFl hl hN11 hS2 hxs2 hup2 hmb
    have hpk := H11.out.2.2.2.2.2.2.1
    have hTk : T = 1 + k' := by rw [← hpk.1]; exact H11.out.2.2.2.2.2.2.2.symm
    have hk1 : 1 + k' ≤ 1000 := by rw [← hpk.1]; exact HKb.out
    have hT3 : ((T : Nat) : Int) = (k' : Int) + 1 := by omega
    rw [hT3]
    have hwk : IntKind.i64.wrap ((k' : Int) + 1) = (k' : Int) + 1 := IntWalk.i64_in _ (by omega)
    have hup2 : up2 = (up || decide (l ≠ 0)) := by
      rw [hpk.2.1]
      congr 1
      rw [decide_eq_decide, ← H11.out.2.2.2.2.1]
      exact not_congr List.length_eq_zero_iff.symm
    have HPt := Lib.hid (fun wr (ht : Touch nob w11 wr) => law19_painted (col := 1) (HN11.out.hp.old ht) (H11.out.1.touch ht (fun _ _ x => x)).ints (H11.out.2.1.touch ht (fun _ _ x => x)).ints (H11.out.2.2.2.1.touch ht (fun _ _ x => x)).ints (Nat.le_trans H3.out.2.2.2.2.2.1 (by decide)) (by rw [List.length_map]) (by have h1 := H11.out.2.2.2.2.2.1; have h2 := HN8.out.1.ln; omega) (fun j hj => by
      have hm : S.obj (S.objs.getD j 0) = true := mem_objs.1 (by rw [List.getD_eq_getElem?_getD, List.getElem?_eq_getElem hj]; exact List.getElem_mem _)
      refine ⟨?_, ?_⟩
      · unfold HS.colE
        rw [if_pos (by rw [H11.out.2.2.2.2.2.2.1.2.2.2.1]; exact hm)]
      · rw [H11.out.2.2.2.2.2.2.1.2.2.2.2 _ hm]
        congr 1
        rw [List.getD_eq_getElem?_getD, List.getD_eq_getElem?_getD, List.getElem?_map, List.getElem?_eq_getElem hj]
        rfl))
    rw [H11.out.2.2.2.2.1] at HPt
    have HLb : Hid (∀ wr, Touch nob w11 wr → Calls Tryz.prog 33 #[pt p] wr fun e w' => e = .returned (.int .i64 0) ∧ wr = w') := fun wr ht => by
      obtain ⟨u, h1, -⟩ := (HN11.out.old ht).buf
      exact buf_Len h1
    have HDr : Hid (Touch nob w11 w11.drew) := Touch.drew (Touch.refl _ _)
    have HC := Lib.hid (fun wr (ht : Touch nob w11 wr) => show wr.cell? ⟨b0, 11, none⟩ = some (.bool up) from (box12 (HBX.out wr (HN11.out.hp.at'.base.trans ht))).2.2.2.2.2.2.2.2.2.2.2)
    clear hpk hTk hT3
    have hU2 := hU.out
    subst hU2
    by_cases hl0 : l = 0
    all_goals
      first
      | (have hlb : ¬ (0 : Int) < (l : Int) := by omega)
      | (have hlb : (0 : Int) < (l : Int) := (by omega); have hlbn : 0 < l := (by omega))
      first
      | rw [decide_eq_true (show l ≠ 0 from hl0)] at hup2
      | rw [decide_eq_false (show ¬ l ≠ 0 from fun h => h hl0)] at hup2
      have HU := Lib.hid HN11.out.fl
      rw [hup2] at HU
      try rw [Bool.false_or] at HU
      try rw [Bool.true_or] at HU
      clear hup2
      try subst hl0
      go_wp2_with fail
      have k11 := cell_regrown (HC.out w11 (Touch.refl _ _))
      have d1 := fun d os => Calls.regrown_of ((HPt.out (grow (redrawn w11 d) os) (Touch.of_below (S := nob) (below_regrown w11 d os))).mono fun _ _ h => ⟨h.1, h.2.below⟩)
      have d2 := fun d os => Calls.regrown_of ((flag_Up f _ (blk_touch HU.out (Touch.of_below (S := nob) (below_regrown w11 d os)) (fun x => x))).mono fun _ _ h => ⟨h.1, h.2 ▸ (Touch.refl nob _).below⟩)
      have d3 := fun d os => Calls.regrown_of ((HLb.out (grow (redrawn w11 d) os) (Touch.of_below (S := nob) (below_regrown w11 d os))).mono fun _ _ h => ⟨h.1, h.2 ▸ (Touch.refl nob _).below⟩)
      refine wp_region_quiet_below (by kernel_rfl) (by kernel_rfl) ?_
      repeat (go_big_quiet_step (first | (go_at_call 42; exact d1 _ _) | (go_at_call 41; exact d2 _ _) | (go_at_call 33; exact d3 _ _)))
      refine wpQuiet_nil ?_
      intro w12 hw'
      obtain ⟨⟨dr, osr⟩, hw''⟩ := hw'
      simp only at hw''
      have HP : Hid (Touch nob w11 w12) := by show Touch nob w11 w12; rw [hw'']; exact Touch.of_below (below_regrown w11 dr osr)
      clear hw'' d1 d2 d3 k11
      have HN12 := Lib.hid (HN11.out.old HP.out)
      have HS12 := Lib.hid (H11.out.2.2.1.old HP.out)
      have hxs := H11.out.2.2.2.2.2.2.1.2.2.1
      by_cases hX0 : X = 0
      · have hXb : ¬ (0 : Int) < (X : Int) := by omega
        have hxn : xs = [] := List.length_eq_zero_iff.1 (HX.out.trans hX0)
        rw [if_pos hxn] at hxs
        rw [hxs] at HN12
        clear hxn hxs
        obtain ⟨L, hL⟩ : ∃ L, bs.length = L := ⟨_, rfl⟩
        have HLl := Lib.hid hL
        obtain ⟨a6, c6, e6⟩ := (sl_ints HS12.out).shape
        rw [hL] at e6
        subst e6
        clear hL
        have HI0 : Hid (∃ y, BoxAt w12 q y (bs.drop 0) ∧ SlAt w12 (.slice a6 L c6) bs ∧ Touch nob W1 w12) := by
          obtain ⟨y, hy, -⟩ := HN12.out.box
          exact ⟨y, hy, HS12.out, HN12.out.hp.at'.base⟩
        have hLb : L ≤ 256 := by have h1 := HN8.out.1.ln; have h2 := HLl.out; omega
        have hqn := Lib.hid (HN12.out.no q (.inr (.inr (.inl rfl)))).2
        go_wp2_with fail
        go_loopw [20] (fun iv wr => ∃ j : Nat, j ≤ L ∧ iv = .int .i64 j ∧ Hid (∃ y, BoxAt wr q y (bs.drop j) ∧ SlAt wr (.slice a6 L c6) bs ∧ Touch nob W1 wr)) (fun iv _ => L - (intOf iv).toNat)
        case atStart => exact ⟨0, Nat.zero_le _, rfl, HI0.out⟩
        case round =>
          obtain ⟨j, hj, rfl, HI⟩ := hrel
          by_cases hlt : j < L
          · have hb : (j : Int) < (L : Int) := by omega
            obtain ⟨y, h1, h2, h3⟩ := HI.out
            have hdr : bs.drop j = bs.getD j 0 :: bs.drop (j + 1) := by
              rw [List.drop_eq_getElem_cons (by rw [HLl.out]; exact hlt)]
              congr 1
              rw [List.getD_eq_getElem?_getD, List.getElem?_eq_getElem (by rw [HLl.out]; exact hlt)]
              rfl
            rw [hdr] at h1
            obtain ⟨x, hx⟩ : ∃ x, bs.getD j 0 = x := ⟨_, rfl⟩
            rw [hx] at h1
            have HX2 := Lib.hid (And.intro h1 (And.intro h2 (And.intro h3 hx)))
            clear hdr h1 h2 h3 hx HI
            go_wp2_with (go_at_call 34; fail)
            refine (box_Next_ok HX2.out.1).mono ?_
            rintro e w13 ⟨rfl, t13, v13, hb13, -⟩
            have hs13 := HX2.out.2.1.touch t13 (fun b hb => HX2.out.2.1.ne HX2.out.1.box HX2.out.1.ty b hb)
            obtain ⟨g6, o6, p6, e6, hc6, hcl6⟩ := (sl_ints hs13).at (k := j) (by rw [HLl.out]; exact hlt)
            rw [HLl.out] at e6 hc6
            injection e6 with z1 z2 z3
            subst z1 z3
            rw [HX2.out.2.2.2] at hcl6
            have H13 : Hid (∃ y, BoxAt w13 q y (bs.drop (j + 1)) ∧ SlAt w13 (.slice (some ⟨g6, o6, none⟩) L c6) bs ∧ Touch nob W1 w13) := ⟨_, hb13, hs13, HX2.out.2.2.1.step t13 (fun b hb => .inr ((show b = q from hb) ▸ hqn.out))⟩
            clear hs13 hb13 t13 z2
            go_wp2_with fail
            go_roundw
            case rel => exact ⟨j + 1, by omega, by go_num, H13.out⟩
            case measure => simp [intOf]; omega
          · obtain rfl : j = L := by omega
            have hb : ¬ (j : Int) < (j : Int) := by omega
            obtain ⟨y, h1, h2, h3⟩ := HI.out
            rw [List.drop_of_length_le (Nat.le_of_eq HLl.out)] at h1
            have HX2 := Lib.hid (And.intro h1 h3)
            clear h1 h2 h3 HI
            go_wp2_with (go_at_call 37; fail)
            refine (box_Len HX2.out.1).mono ?_
            rintro e w13 ⟨rfl, rfl⟩
            rw [List.length_nil]
            go_wp2
            go_ret
            exact ⟨rfl, (H3.out.1.trans HX2.out.2).below⟩
      · have hXb : (0 : Int) < (X : Int) := by omega
        have hxn : ¬ xs = [] := fun e => hX0 (by rw [← HX.out, e]; rfl)
        rw [if_neg hxn] at hxs
        rw [hxs] at HN12
        clear hxn hxs
        go_wp2_with (go_at_call 37; fail)
        obtain ⟨y, hy, -⟩ := HN12.out.box
        refine (box_Len hy).mono ?_
        rintro e w13 ⟨rfl, rfl⟩
        rw [HX.out]
        clear hy
        go_wp2
        go_ret
        exact ⟨by first | rfl | exact ret_b (by simp), (H3.out.1.trans HN12.out.hp.at'.base).below⟩
theorem law_NotePours {w : World} (a0 : Int) (_ : (Lit.int .i64 a0).wf = true) (a1 : Int) (_ : (Lit.int .i64 a1).wf = true) (a2 : Int) (_ : (Lit.int .i64 a2).wf = true) (a3 : Int) (_ : (Lit.int .i64 a3).wf = true) (a4 : Int) (_ : (Lit.int .i64 a4).wf = true) (a5 : Int) (_ : (Lit.int .i64 a5).wf = true) (a6 : Int) (_ : (Lit.int .i64 a6).wf = true) (th : Value) (r1 : List (List Value)) (s1 : IsSlice w th [some .u8, some .u8, none] r1) (bf : Value) (r2 : List (List Value)) (s2 : IsSlice w bf [some .u8] r2) (bx : Value) (r3 : List (List Value)) (s3 : IsSlice w bx [some .u8] r3) (rm : Int) (hq0 : (Lit.int .u8 rm).wf = true) (up : Bool) (white : Bool) (hTab : Tab w) (hLim : Limits w) (hS : Sizes w) :
    Calls Tryz.prog 7 #[CsV ⟨a0, a1, a2, a3, a4, a5, a6⟩ th bf bx rm up, .bool white] w fun e w' => e = .returned (.bool true) ∧ Below w.heap.size w w' := by
  cases white
  · cases up
    · exact npours_false_false a0 a1 a2 a3 a4 a5 a6 th r1 s1 bf r2 s2 bx r3 s3 rm hq0 false rfl hTab hLim hS
    · exact npours_false_true a0 a1 a2 a3 a4 a5 a6 th r1 s1 bf r2 s2 bx r3 s3 rm hq0 true rfl hTab hLim hS
  · cases up
    · exact npours_true_false a0 a1 a2 a3 a4 a5 a6 th r1 s1 bf r2 s2 bx r3 s3 rm hq0 false rfl hTab hLim hS
    · exact npours_true_true a0 a1 a2 a3 a4 a5 a6 th r1 s1 bf r2 s2 bx r3 s3 rm hq0 true rfl hTab hLim hS
end Go.Proofs.YtnobempbcdkoaaaGreatDoor
