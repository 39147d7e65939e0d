/- NoteNotes, walked. Conditions: the tables of limits, of sizes and of de Bruijn's bits read as laid. -/
import Derived.Test.YtnobempbcdkoaaaGreatDoorNoq
import Derived.Test.YtnobempbcdkoaaaGreatDoorNor
import Derived.Deep.RegionHeld3
namespace Go.Proofs.YtnobempbcdkoaaaGreatDoor
open Go.RowKit

variable {w : World}
theorem sx_of_sl {v : Value} {xs : List Int} (h : SlAt w v xs) : Sx w v xs := by
  rcases id h with h0 | ⟨g, o, cap, cur, rfl, h1, hg, h3⟩
  · exact .inl h0
  · refine .inr ⟨g, o, cap, rfl, fun j u hj => ?_⟩
    obtain ⟨hl, rfl⟩ := List.getElem?_eq_some_iff.1 hj
    simp only [List.length_map] at hl
    rw [Addr.add_lit, h.cell hl]
    simp [List.getD_eq_getElem?_getD, hl]
theorem sx_one (w : World) (x : Int) : Sx (w.alloc (Obj.cells #[.int .i64 x] 3)) (.slice (some ⟨w.heap.size, 0, none⟩) 1 1) [x] := by
  refine .inr ⟨w.heap.size, 0, 1, rfl, fun j u hj => ?_⟩
  obtain ⟨hl, rfl⟩ := List.getElem?_eq_some_iff.1 hj
  have h0 : j = 0 := by simpa using hl
  subst h0
  exact one_cell (World.alloc_heap_new w _)
theorem ints_made {b : Nat} {x : Int} (h : w.heap[b]? = some (Obj.cells #[.int .i64 x] 3)) : IntsIn w (.slice (some ⟨b, 0, none⟩) 1 1) [x] := by
  refine ⟨_, _, rfl, .inr ⟨b, 0, rfl, Nat.le_refl _, fun j hj => ?_⟩⟩
  obtain rfl : j = 0 := by simpa using hj
  simp [World.cell?, h]
set_option maxRecDepth 20000 in
set_option maxHeartbeats 4000000 in
theorem nnotes_false_false {w : World} (a0 a1 a2 a3 a4 a5 a6 : Int) (th : Value) (r1 : List (List Value)) (s1 : IsSlice w th [some .u8, some .u8, none] r1) (bf : Value) (r2 : List (List Value)) (s2 : IsSlice w bf [some .u8] r2) (bx : Value) (r3 : List (List Value)) (s3 : IsSlice w bx [some .u8] r3) (rm : Int) (hq0 : (Lit.int .u8 rm).wf = true) (up : Bool) (hU : Hid (up = false)) (v : Int) (hTab : Tab w) (hLim : Limits w) (hS : Sizes w) :
    Calls Tryz.prog 6 #[CsV ⟨a0, a1, a2, a3, a4, a5, a6⟩ th bf bx rm up, .int .i64 v, .bool false] w fun e w' => e = .returned (.bool true) ∧ Below w.heap.size w w' := by
  obtain ⟨N0, hI0, -⟩ := rows_of_slice s1 (by simp)
  obtain ⟨ths, -, hth⟩ := ThIn.of_rows hI0
  obtain ⟨ks, hbf, -, hkb⟩ := k_of_slice s2
  obtain ⟨ls, hbx, -, hlb⟩ := k_of_slice s3
  have hrm := bounds_u8 hq0
  obtain ⟨at1, c1, rfl, -⟩ := id hth
  obtain ⟨af, c2, rfl⟩ := hbf.shape
  obtain ⟨ar, c3, rfl⟩ := hbx.shape
  obtain ⟨N, hN⟩ : ∃ N, ths.length = N := ⟨_, rfl⟩
  obtain ⟨M, hM⟩ : ∃ M, ks.length = M := ⟨_, rfl⟩
  obtain ⟨R, hR⟩ : ∃ R, ls.length = R := ⟨_, rfl⟩
  have HG := Lib.hid (And.intro hth (And.intro hbf (And.intro hbx (And.intro hkb (And.intro hlb hrm)))))
  have HLn := Lib.hid (And.intro hN (And.intro hM hR))
  have HL := Lib.hid (And.intro (Laid.mk hLim hS) hTab)
  rw [hN, hM, hR]
  clear hth hbf hbx hkb hlb hI0 s1 s2 s3 hLim hS hTab hN hM hR hq0 hrm
  go_enter Tryz.func6, Tryz.ntmps6
  go_wp2_with fail
  obtain ⟨W0, hW⟩ : ∃ W, W = w.alloc (Obj.cells (CsR ⟨a0, a1, a2, a3, a4, a5, a6⟩ (.slice at1 N c1) (.slice af M c2) (.slice ar R c3) rm up) 54) := ⟨_, rfl⟩
  have hT : Touch nob w W0 := by rw [hW]; (repeat (first | with_reducible exact Touch.refl _ _ | with_reducible assumption | with_reducible apply Touch.alloc | with_reducible apply Touch.drewN | with_reducible apply Touch.drew | with_reducible refine Touch.setCell ?_ (.inr (by first | omega | (simp; done) | (simp; omega))) _))
  obtain ⟨b0, hb0⟩ : ∃ b, b = w.heap.size := ⟨_, rfl⟩
  rw [← hW, ← hb0]
  have hbx : W0.heap[b0]? = some (Obj.cells (CsR ⟨a0, a1, a2, a3, a4, a5, a6⟩ (.slice at1 N c1) (.slice af M c2) (.slice ar R c3) rm up) 54) := by rw [hW, hb0]; exact World.alloc_heap_new w _
  have HB := Lib.hid (And.intro hT hbx)
  clear hW hb0 hT hbx
  obtain ⟨y0, y1, y2, y3, y4, y5, y6, y7, y8, y9, ya, yb⟩ := box12 HB.out.2
  go_wp2_with (go_at_call 26; fail)
  refine (law19_great ⟨a0, a1, a2, a3, a4, a5, a6⟩ W0 at1 af ar N c1 M c2 R c3 rm up).mono ?_
  rintro e w1 ⟨rfl, t1⟩
  have H1 := Lib.hid (And.intro (HB.out.1.trans t1) (blk_touch HB.out.2 t1 (fun x => x)))
  clear t1 HB y0 y1 y2 y3 y4 y5 y6 y7 y8 y9 ya yb
  cases hgt : (decide (30 < N) || decide (40 < M) || decide (40 < R)) with
  | true =>
    go_wp2_with (go_at_call 27; fail)
    refine (law19_awake w1 (HL.out.1.old H1.out.1)).mono ?_
    rintro e w2 ⟨rfl, t2⟩
    have H2 := Lib.hid ((H1.out.1.trans t2).below)
    clear t2
    go_wp2
    go_ret
    exact ⟨rfl, H2.out⟩
  | false =>
    simp only [Bool.or_eq_false_iff, decide_eq_false_iff_not] at hgt
    have HBd := Lib.hid hgt
    clear hgt
    go_wp2_with (go_at_call 27; fail)
    refine (law19_awake w1 (HL.out.1.old H1.out.1)).mono ?_
    rintro e w2 ⟨rfl, t2⟩
    have H2 := Lib.hid (And.intro (H1.out.1.trans t2) (blk_touch H1.out.2 t2 (fun x => x)))
    obtain ⟨y0, y1, y2, y3, y4, y5, y6, y7, y8, y9, ya, yb⟩ := box12 H2.out.2
    clear t2
    go_wp2_with (go_at_call 28; fail)
    obtain ⟨c, hc⟩ : ∃ c, little ⟨a0, a1, a2, a3, a4, a5, a6⟩ = c := ⟨_, rfl⟩
    have hpt := law19_parts ⟨a0, a1, a2, a3, a4, a5, a6⟩ c hc _ _ _ ths ks ls rm up w2 (HL.out.1.old H2.out.1) (HL.out.2.touch H2.out.1 (fun x => x)) (HG.out.1.old H2.out.1) (HG.out.2.1.old H2.out.1) (HG.out.2.2.1.old H2.out.1) (fun j hj => bounds_u8 (HG.out.2.2.2.1 j hj)) (fun j hj => bounds_u8 (HG.out.2.2.2.2.1 j hj)) (by have h1 := HBd.out; have h2 := HLn.out.2.1; omega) (by have h1 := HBd.out; have h2 := HLn.out.2.2; omega) HG.out.2.2.2.2.2
    rw [HLn.out.1, HLn.out.2.1, HLn.out.2.2] at hpt
    refine hpt.mono ?_
    rintro e w3 ⟨A, p, q, f, rfl, W1, S, H, bs, xs, t3, hP, hbm, hxm, hxl, hol⟩
    obtain ⟨r6, hr6⟩ : ∃ r, rm % 6 = r := ⟨_, rfl⟩
    rw [hr6] at hP
    have HR6 := Lib.hid (And.intro hr6 HG.out.2.2.2.2.2)
    have H3 := Lib.hid (And.intro (H2.out.1.trans t3) (And.intro hP (And.intro hbm (And.intro hxm (And.intro hxl (And.intro hol ((HL.out.2.touch H2.out.1 (fun x => x)).touch t3 (fun x => x))))))))
    have HBX : Hid (∀ wr, Touch nob W1 wr → wr.heap[b0]? = some (Obj.cells (CsR ⟨a0, a1, a2, a3, a4, a5, a6⟩ (.slice at1 N c1) (.slice af M c2) (.slice ar R c3) rm up) 54)) := fun wr ht => blk_touch H2.out.2 (t3.trans ht) (fun x => x)
    clear t3 hP hbm hxm hxl hol hc hpt hr6 y0 y1 y2 y3 y4 y5 y6 y7 y8 y9 ya yb
    go_wp2_with (go_at_call 29; fail)
    refine (note_New_ok A.h p q f w3).mono ?_
    rintro e w4 ⟨n, rfl, hn4, t4, hb4⟩
    have HN4 := Lib.hid (H3.out.2.1.nt t4 hn4 hb4)
    clear hn4 t4 hb4
    go_wp2_with (go_at_call 36; fail)
    refine (law19_colors HN4.out.hp (H3.out.2.2.2.2.2.2.touch HN4.out.hp.at'.base (fun x => x)) (Nat.le_trans H3.out.2.2.2.2.2.1 (by decide))).mono ?_
    rintro e w5 ⟨va, vc, rfl, t5, h5, oa, oc⟩
    have HN5 := Lib.hid (HN4.out.heap t5 h5)
    have HO5 := Lib.hid (And.intro oa (And.intro oc t5.size))
    clear t5 h5 oa oc
    have hr6t : rm.tmod 6 = r6 := by rw [Int.tmod_eq_emod_of_nonneg HR6.out.2.1]; exact HR6.out.1
    have hr60 : 0 ≤ r6 := by have := HR6.out; omega
    have hr61 : r6 < 6 := by have := HR6.out; omega
    have hwr : IntKind.i64.wrap r6 = r6 := IntWalk.i64_in _ (by omega)
    have hwr1 : IntKind.i64.wrap (1 + r6) = 1 + r6 := IntWalk.i64_in _ (by omega)
    have HDr : Hid (Touch nob w5 w5.drew) := Touch.drew (Touch.refl _ _)
    have HC := Lib.hid (fun wr (ht : Touch nob w5 wr) => show wr.cell? ⟨b0, 10, none⟩ = some (.int .u8 rm) from (box12 (HBX.out wr (HN5.out.hp.at'.base.trans ht))).2.2.2.2.2.2.2.2.2.2.1)
    have HBa : Hid (Calls Tryz.prog 30 #[pt p] w5.drew fun e w' => ∃ v', e = .returned v' ∧ Touch nob w5.drew w' ∧ SlAt w' v' bs ∧ SubB w5.drew v' (.slice none 0 0)) := by
      obtain ⟨u5, hb5, -⟩ := (HN5.out.old HDr.out).buf
      exact buf_All2 hb5
    obtain ⟨X, hX⟩ : ∃ X, xs.length = X := ⟨_, rfl⟩
    have HBl : Hid (∀ wr, Touch nob w5 wr → Calls Tryz.prog 37 #[pt q] wr fun e w' => e = .returned (.int .i64 X) ∧ wr = w') := fun wr ht => by
      obtain ⟨y6, hx6, -⟩ := (HN5.out.old ht).box
      rw [← hX]
      exact box_Len hx6
    have HX := Lib.hid hX
    clear hX
    go_wp2_with fail
    go_region_held3 (fun w1 => w1.cell? ⟨b0, 10, none⟩ = some (.int .u8 rm)) (first | exact HC.out _ H6.out.1 | exact HC.out _ HDr.out | exact HC.out _ (Touch.refl _ _)) (first
      | (go_at_call 37; refine (HBl.out _ H6.out.1).mono ?_; rintro e w7 ⟨rfl, rfl⟩)
      | (go_at_call 30; refine HBa.out.mono ?_; rintro e w6 ⟨v6, rfl, t6, hs6, hB6⟩; have H6 := Lib.hid (And.intro (HDr.out.trans t6) (And.intro hs6 hB6)); clear t6 hs6 hB6))
    rename_i hheld
    clear hheld
    have HN6 := Lib.hid (HN5.out.old H6.out.1)
    go_wp2_with (go_at_call 38; fail)
    refine (note_Once .nilFunc (.inl rfl) w6).mono ?_
    rintro e w8 ⟨bO, rfl, hbO, t8, hO⟩
    have HN8 := Lib.hid (And.intro (HN6.out.old t8) (And.intro hO (And.intro hbO t8)))
    clear hbO t8 hO
    go_wp2_with (go_at_call 32; fail)
    refine (does_note (m := 1) (v := v) (col := 0) (I := fun _ => True) (Q := fun w' => NtR nob W1 A c H n p q f (1 + r6) (noteR S v 0 (1 + r6) bs xs up) w' ∧ Touch (NoT A p q f) w8 w') (.inr ⟨_, _, rfl⟩) HN8.out.1 (fun _ _ _ => trivial) (fun w' ht hN' => does_once (blk_touch HN8.out.2.1 ht (nt_keep HN6.out HN8.out.2.2.1)) trivial ⟨hN', ht⟩)).mono ?_
    rintro e w9 ⟨sv, rfl, t9, hD⟩
    have HD := Lib.hid hD
    clear t9 hD
    go_wp2_with (go_at_call 31; fail)
    have hKb : 1 + noteK S v 0 (1 + r6) bs xs ≤ 1000 ∧ ((1 + noteK S v 0 (1 + r6) bs xs : Nat) : Int) ≤ 6 + r6 := by
      have h1 := HN8.out.1.ln
      unfold noteK pourK
      split
      · omega
      · split
        · omega
        · split
          · omega
          · split
            · omega
            · split <;> omega
    refine (note_Run (1 + noteK S v 0 (1 + r6) bs xs) 1000 sv HD.out (by omega)).mono ?_
    rintro e w10 ⟨T, rfl, hT, -, hQ⟩
    obtain rfl : T = 1 + noteK S v 0 (1 + r6) bs xs := by omega
    rw [decide_eq_true rfl]
    obtain ⟨hN10, t10⟩ := hQ rfl
    obtain ⟨T, hT2⟩ : ∃ T, 1 + noteK S v 0 (1 + r6) bs xs = T := ⟨_, rfl⟩
    rw [hT2] at hKb ⊢
    have oa10 : Ow w10 w4.heap.size va S.objs := (HO5.out.1.touch (H6.out.1.trans HN8.out.2.2.2) (fun _ _ x => x)).touch t10 (fun g hg => nt_keep HN4.out (HO5.out.1.new g hg))
    have oc10 : Ow w10 w4.heap.size vc (S.objs.map S.colV) := (HO5.out.2.1.touch (H6.out.1.trans HN8.out.2.2.2) (fun _ _ x => x)).touch t10 (fun g hg => nt_keep HN4.out (HO5.out.2.1.new g hg))
    have os10 : SlAt w10 v6 bs := (H6.out.2.1.old HN8.out.2.2.2).touch t10 (fun g hg => nt_keep HN5.out ((H6.out.2.2 g hg).resolve_left (fun e => by cases e)))
    have H10 := Lib.hid (And.intro hN10 (And.intro oa10 (And.intro oc10 (And.intro os10 (And.intro hT2 hKb.2)))))
    clear hKb hT hQ hN10 t10 oa10 oc10 os10 hT2
    have HC2 := Lib.hid (fun wr (ht : Touch nob w10 wr) => show wr.cell? ⟨b0, 11, none⟩ = some (.bool up) from (box12 (HBX.out wr (H10.out.1.hp.at'.base.trans ht))).2.2.2.2.2.2.2.2.2.2.2)
    have HDr2 : Hid (Touch nob w10 w10.drew) := Touch.drew (Touch.refl _ _)
    go_wp2_with fail
    go_region_held3 (fun w1 => w1.cell? ⟨b0, 11, none⟩ = some (.bool up)) (first | exact HC2.out _ HDr2.out | exact HC2.out _ (Touch.refl _ _)) (fail)
    rename_i hheld
    clear hheld
    obtain ⟨w11, hw11⟩ : ∃ w11, w10.drew = w11 := ⟨_, rfl⟩
    rw [hw11] at HDr2 ⊢
    clear hw11
    have hplain : ∀ S2 : HS, (∀ z, S2.obj z = S.obj z) → (∀ z, S.obj z = true → S2.colV z = S.colV z) → ∀ j, j < S.objs.length → S2.colE (S.objs.getD j 0) = 0 ∧ S2.colV (S.objs.getD j 0) = if S.objs.getD j 0 ∈ ([] : List Int) then 0 else (S.objs.map S.colV).getD j 0 := fun S2 h1 h2 j hj => by
      have hm : S.obj (S.objs.getD j 0) = true := mem_objs.1 (by rw [List.getD_eq_getElem?_getD, List.getElem?_eq_getElem hj]; exact List.getElem_mem _)
      refine ⟨by unfold HS.colE; rw [if_pos ((h1 _).trans hm)], ?_⟩
      rw [if_neg (by simp), h2 _ hm, List.getD_eq_getElem?_getD, List.getD_eq_getElem?_getD, List.getElem?_map, List.getElem?_eq_getElem hj]
      rfl
    by_cases hv0 : v = 0
    · have hR : noteR S v 0 (1 + r6) bs xs up = (S, bs, xs, up) := by unfold noteR; rw [if_pos (.inl hv0)]
      have hT1 : T = 1 := by
        have h1 := H10.out.2.2.2.2.1
        unfold noteK at h1
        rw [if_pos hv0] at h1
        omega
      have hNf := H10.out.1.old HDr2.out
      rw [hR] at hNf
      clear hR
      have HNf := Lib.hid (show NtI nob W1 A c H n p q f (1 + r6) S bs xs up w11 from hNf)
      have HOa := Lib.hid (And.intro (H10.out.2.1.touch HDr2.out (fun _ _ x => x)).ints (And.intro (H10.out.2.2.1.touch HDr2.out (fun _ _ x => x)).ints (And.intro (sl_ints (H10.out.2.2.2.1.old HDr2.out)) (show IntsIn w11 (.slice none 0 0) [] from ⟨none, 0, rfl, .inl rfl⟩))))
      have HPl := Lib.hid (And.intro (show ([] : List Int).length ≤ 4096 by decide) (hplain S (fun _ => rfl) (fun _ _ => rfl)))
      clear hNf
      subst hT1 hv0
      clear hplain
      go_wp2_with (go_at_call 30; fail)
      obtain ⟨uf, hbf, -⟩ := HNf.out.buf
      refine (buf_All2 hbf).mono ?_
      rintro e w12 ⟨v12, rfl, t12, hs12, -⟩
      have H12 := Lib.hid (And.intro t12 (sl_ints hs12))
      clear hbf t12 hs12
      go_wp2_with (go_at_call 18; fail)
      refine (ref01_Same _ _ bs _ H12.out.2 (HOa.out.2.2.1.old H12.out.1) (by have := HNf.out.ln; omega)).mono ?_
      rintro e w13 ⟨rfl, t13⟩
      have H13 := Lib.hid (H12.out.1.trans t13)
      clear t13
      go_wp2_with (go_at_call 41; fail)
      refine (flag_Up f up (HNf.out.old H13.out).fl).mono ?_
      rintro e w14 ⟨rfl, rfl⟩
      go_wp2_with (go_at_call 42; fail)
      refine (law19_painted (col := 0) (HNf.out.hp.old H13.out) (HOa.out.1.old H13.out) (HOa.out.2.1.old H13.out) (HOa.out.2.2.2.old H13.out) (Nat.le_trans H3.out.2.2.2.2.2.1 (by decide)) (by rw [List.length_map]) HPl.out.1 HPl.out.2).mono ?_
      rintro e w15 ⟨rfl, t15⟩
      have H15 := Lib.hid ((H3.out.1.trans HNf.out.hp.at'.base).trans (H13.out.trans t15))
      clear t15
      go_wp2
      go_ret
      exact ⟨by first | rfl | exact ret_b (by simp), H15.out.below⟩
    · have hv1 : (v == 0) = false := by simpa using hv0
      go_wp2_with (go_at_call 16; fail)
      refine (ref01_In va S.objs v (H10.out.2.1.touch HDr2.out (fun _ _ x => x)).ints (Nat.le_trans H3.out.2.2.2.2.2.1 (by decide))).mono ?_
      rintro e wx ⟨rfl, tx⟩
      have HDr3 := Lib.hid (HDr2.out.trans tx)
      clear tx
      by_cases hvo : v ∈ S.objs
      · rw [decide_eq_true hvo]
        have hvS : S.obj v = true := mem_objs.1 hvo
        have hce : S.colE v = 0 := by unfold HS.colE; rw [if_pos hvS]
        go_wp2_with (go_at_call 39; fail)
        refine (law19_place va S.objs v (H10.out.2.1.touch HDr3.out (fun _ _ x => x)).ints (Nat.le_trans H3.out.2.2.2.2.2.1 (by decide)) hvo).mono ?_
        rintro e wy ⟨i, rfl, rfl, hi5, hi6⟩
        obtain ⟨g2, o2, p2, e2, hcap2, hcell2⟩ := (H10.out.2.2.1.touch HDr3.out (fun _ _ x => x)).ints.at (k := i) (by rw [List.length_map]; exact hi5)
        have hVi : (S.objs.map S.colV).getD i 0 = S.colV v := by
          rw [← hi6, List.getD_eq_getElem?_getD, List.getD_eq_getElem?_getD, List.getElem?_map, List.getElem?_eq_getElem hi5]
          rfl
        rw [hVi] at hcell2
        rw [List.length_map] at e2 hcap2
        obtain ⟨N, hN⟩ : ∃ N, S.objs.length = N := ⟨_, rfl⟩
        rw [hN] at hi5 e2 hcap2
        subst e2
        have hib : (i : Int) < (N : Int) := by omega
        clear hVi hi6 hN
        by_cases hcv : S.colV v = 0
        · rw [hcv] at hcell2
          have hR : noteR S v 0 (1 + r6) bs xs up = (S, bs, xs, up) := by unfold noteR; rw [if_pos (.inr (.inr hcv))]
          have hT1 : T = 2 := by
            have h1 := H10.out.2.2.2.2.1
            unfold noteK at h1
            rw [if_neg hv0, if_pos (.inr (.inl hcv))] at h1
            omega
          have hNf := H10.out.1.old HDr3.out
          rw [hR] at hNf
          clear hR hce hcv
          have HNf := Lib.hid (show NtI nob W1 A c H n p q f (1 + r6) S bs xs up wx from hNf)
          have HOa := Lib.hid (And.intro (H10.out.2.1.touch HDr3.out (fun _ _ x => x)).ints (And.intro (H10.out.2.2.1.touch HDr3.out (fun _ _ x => x)).ints (And.intro (sl_ints (H10.out.2.2.2.1.old HDr3.out)) (show IntsIn wx (.slice none 0 0) [] from ⟨none, 0, rfl, .inl rfl⟩))))
          clear hNf
          have HPl := Lib.hid (And.intro (show ([] : List Int).length ≤ 4096 by decide) (hplain S (fun _ => rfl) (fun _ _ => rfl)))
          subst hT1
          clear hplain
          go_wp2_with (go_at_call 30; fail)
          obtain ⟨uf, hbf, -⟩ := HNf.out.buf
          refine (buf_All2 hbf).mono ?_
          rintro e w12 ⟨v12, rfl, t12, hs12, -⟩
          have H12 := Lib.hid (And.intro t12 (sl_ints hs12))
          clear hbf t12 hs12
          go_wp2_with (go_at_call 18; fail)
          refine (ref01_Same _ _ bs _ H12.out.2 (HOa.out.2.2.1.old H12.out.1) (by have := HNf.out.ln; omega)).mono ?_
          rintro e w13 ⟨rfl, t13⟩
          have H13 := Lib.hid (H12.out.1.trans t13)
          clear t13
          go_wp2_with (go_at_call 41; fail)
          refine (flag_Up f up (HNf.out.old H13.out).fl).mono ?_
          rintro e w14 ⟨rfl, rfl⟩
          go_wp2_with (go_at_call 42; fail)
          refine (law19_painted (col := 0) (HNf.out.hp.old H13.out) (HOa.out.1.old H13.out) (HOa.out.2.1.old H13.out) (HOa.out.2.2.2.old H13.out) (Nat.le_trans H3.out.2.2.2.2.2.1 (by decide)) (by rw [List.length_map]) HPl.out.1 HPl.out.2).mono ?_
          rintro e w15 ⟨rfl, t15⟩
          have H15 := Lib.hid ((H3.out.1.trans HNf.out.hp.at'.base).trans (H13.out.trans t15))
          clear t15
          go_wp2
          go_ret
          exact ⟨by first | rfl | exact ret_b (by simp), H15.out.below⟩
        · obtain ⟨d, hd⟩ : ∃ d, S.colV v = d := ⟨_, rfl⟩
          rw [hd] at hcell2
          have hdc : (d == 0) = false := by rw [← hd]; simpa using hcv
          have hc0 : ¬ (v = 0 ∨ S.colE v ≠ 0 ∨ S.colV v = 0) := fun h => h.elim hv0 (fun h => h.elim (fun h => h hce) hcv)
          have HCv := Lib.hid (And.intro hcv (And.intro hce hc0))
          clear hcv hd hce hc0
          obtain ⟨L, hL⟩ : ∃ L, bs.length = L := ⟨_, rfl⟩
          have HL := Lib.hid hL
          obtain ⟨a6, c6, e6⟩ := (sl_ints H10.out.2.2.2.1).shape
          rw [hL] at e6
          subst e6
          clear hL
          by_cases hlr : (L : Int) < 1 + r6
          · have hlr' : (bs.length : Int) < 1 + r6 := by rw [HL.out]; exact hlr
            have hR : noteR S v 0 (1 + r6) bs xs up = (S, bs ++ [v], xs, up) := by unfold noteR; rw [if_neg HCv.out.2.2, if_pos hlr']
            have hT1 : T = 2 := by
              have h1 := H10.out.2.2.2.2.1
              unfold noteK at h1
              rw [if_neg hv0, if_pos (.inr (.inr hlr'))] at h1
              omega
            have HR := Lib.hid hR
            have HO0 : Hid (Ow (wx.alloc (Obj.cells #[] 3)) wx.heap.size (.slice (some ⟨wx.heap.size, 0, none⟩) 0 0) []) := World.ownsRow_made (size := 1) wx #[] 0 (Nat.le_refl _) (by unfold maxLen; omega) rfl
            have HX0 := Lib.hid (sx_of_sl (H10.out.2.2.2.1.old (HDr3.out.trans (Touch.alloc (Touch.refl nob wx) (Obj.cells #[] 3)))))
            have hl40 : bs.length ≤ 40 := by have := HR6.out; omega
            clear hR hlr'
            subst hT1
            go_wp2_with (at_builtin; first
              | (refine wpList_append_sx rfl _ _ rfl wx.heap.size _ _ [] bs rfl HO0.out rfl HX0.out (by rw [List.length_nil]; omega) (by simp) ?_; intro v7 w7 hown hgrow hat; have H7 := Lib.hid (And.intro hown (And.intro hgrow (Touch.grown ((Touch.refl nob wx).alloc (Obj.cells #[] 3)) hgrow (fun _ h => by cases h; exact .inr (Nat.le_refl _))))); clear hown hgrow hat)
              | (refine wpList_append_sx rfl _ _ rfl wx.heap.size _ _ bs [v] rfl (H7.out.1.touch (Touch.alloc (Touch.refl nob _) _) (fun _ _ x => x)) rfl (sx_one _ _) (by simp; omega) (by have := H7.out.2.2.size; rw [World.size_alloc]; omega) ?_; intro v8 w8 hown hgrow hat; have H8 := Lib.hid (And.intro hown hgrow); clear hown hgrow hat)
              | fail)
            have HT8 : Hid (Touch nob wx w8) := Touch.grown (H7.out.2.2.alloc _) H8.out.2 (fun g hg => .inr (H7.out.1.new g hg))
            have hNf := H10.out.1.old (HDr3.out.trans HT8.out)
            rw [HR.out] at hNf
            have HNf := Lib.hid (show NtI nob W1 A c H n p q f (1 + r6) S (bs ++ [v]) xs up w8 from hNf)
            have HOa := Lib.hid (And.intro (H10.out.2.1.touch (HDr3.out.trans HT8.out) (fun _ _ x => x)).ints (And.intro (H10.out.2.2.1.touch (HDr3.out.trans HT8.out) (fun _ _ x => x)).ints (And.intro H8.out.1.ints (show IntsIn w8 (.slice none 0 0) [] from ⟨none, 0, rfl, .inl rfl⟩))))
            clear hNf
            have HPl := Lib.hid (And.intro (show ([] : List Int).length ≤ 4096 by decide) (hplain S (fun _ => rfl) (fun _ _ => rfl)))
            clear hplain
            go_wp2_with (go_at_call 30; fail)
            obtain ⟨uf, hbf, -⟩ := HNf.out.buf
            refine (buf_All2 hbf).mono ?_
            rintro e w12 ⟨v12, rfl, t12, hs12, -⟩
            have H12 := Lib.hid (And.intro t12 (sl_ints hs12))
            clear hbf t12 hs12
            go_wp2_with (go_at_call 18; fail)
            refine (ref01_Same _ _ (bs ++ [v]) _ H12.out.2 (HOa.out.2.2.1.old H12.out.1) (by have := HNf.out.ln; omega)).mono ?_
            rintro e w13 ⟨rfl, t13⟩
            have H13 := Lib.hid (H12.out.1.trans t13)
            clear t13
            go_wp2_with (go_at_call 41; fail)
            refine (flag_Up f up (HNf.out.old H13.out).fl).mono ?_
            rintro e w14 ⟨rfl, rfl⟩
            go_wp2_with (go_at_call 42; fail)
            refine (law19_painted (col := 0) (HNf.out.hp.old H13.out) (HOa.out.1.old H13.out) (HOa.out.2.1.old H13.out) (HOa.out.2.2.2.old H13.out) (Nat.le_trans H3.out.2.2.2.2.2.1 (by decide)) (by rw [List.length_map]) HPl.out.1 HPl.out.2).mono ?_
            rintro e w15 ⟨rfl, t15⟩
            have H15 := Lib.hid ((H3.out.1.trans HNf.out.hp.at'.base).trans (H13.out.trans t15))
            clear t15
            go_wp2
            go_ret
            exact ⟨by first | rfl | exact ret_b (by simp), H15.out.below⟩
          · have hlr' : ¬ (bs.length : Int) < 1 + r6 := by rw [HL.out]; exact hlr
            have hR : noteR S v 0 (1 + r6) bs xs up = ((pourR S 0 bs xs up).1, [v], (pourR S 0 bs xs up).2.2) := by unfold noteR; rw [if_neg HCv.out.2.2, if_neg hlr']
            have hT1 : T = 3 + pourK S 0 bs xs := by
              have h1 := H10.out.2.2.2.2.1
              unfold noteK at h1
              rw [if_neg hv0, if_neg (fun h => h.elim (fun h => h HCv.out.2.1) (fun h => h.elim HCv.out.1 hlr'))] at h1
              omega
            have HR := Lib.hid hR
            have HT1 := Lib.hid hT1
            clear hR hT1 hlr'
            go_wp2_with (go_at_call 40; fail)
            have hmb : ∀ z, z ∈ bs → S.obj z = true := fun z hz => mem_objs.1 (H3.out.2.2.1 z hz)
            refine (law19_poured (col := 0) S.colV (H10.out.2.1.touch HDr3.out (fun _ _ x => x)).ints (H10.out.2.2.1.touch HDr3.out (fun _ _ x => x)).ints (sl_ints (H10.out.2.2.2.1.old HDr3.out)) (Nat.le_trans H3.out.2.2.2.2.2.1 (by decide)) (by rw [List.length_map]) (by have := HN8.out.1.ln; omega) H3.out.2.2.1 (fun j hj => by rw [List.getD_eq_getElem?_getD, List.getD_eq_getElem?_getD, List.getElem?_map, List.getElem?_eq_getElem hj]; rfl) X (by have h1 := HX.out; have h2 := H3.out.2.2.2.2.1; omega)).mono ?_
            rintro e w11 ⟨vf, F, k', rfl, t11, oF, hFl, hPw⟩
            rw [← HX.out] at hPw
            have hpl := pour_plain (up := up) (by decide) hmb hPw
            obtain ⟨af2, cf2, rfl⟩ := oF.ints.shape
            obtain ⟨l, hl⟩ : ∃ l, F.length = l := ⟨_, rfl⟩
            rw [hl] at oF ⊢
            obtain ⟨S2, hS2⟩ : ∃ S2, (pourR S 0 bs xs up).1 = S2 := ⟨_, rfl⟩
            obtain ⟨xs2, hxs2⟩ : ∃ xs2, (pourR S 0 bs xs up).2.2.1 = xs2 := ⟨_, rfl⟩
            obtain ⟨up2, hup2⟩ : ∃ up2, (pourR S 0 bs xs up).2.2.2 = up2 := ⟨_, rfl⟩
            have HT11 := Lib.hid (HDr3.out.trans t11)
            have hN11 := H10.out.1.old HT11.out
            rw [HR.out] at hN11
            have hNf : NtI nob W1 A c H n p q f (1 + r6) (pourR S 0 bs xs up).1 [v] (pourR S 0 bs xs up).2.2.1 (pourR S 0 bs xs up).2.2.2 w11 := hN11
            rw [hS2, hxs2, hup2] at hNf
            rw [hS2, hxs2, hup2] at hpl
            have hTk : T = 3 + k' := by have h1 := HT1.out; have h2 := hpl.1; omega
            have hT3 : ((T : Nat) : Int) = 3 + (k' : Int) := by omega
            rw [hT3]
            have hk1 : 3 + (k' : Int) ≤ 6 + r6 := by have := H10.out.2.2.2.2.2; omega
            have hwk : IntKind.i64.wrap (3 + (k' : Int)) = 3 + (k' : Int) := IntWalk.i64_in _ (by omega)
            have hup3 : up2 = (up || decide (l ≠ 0)) := by
              rw [hpl.2.1]
              congr 1
              rw [decide_eq_decide, ← hl]
              exact not_congr List.length_eq_zero_iff.symm
            have hFl2 : F.length ≤ 4096 := by have h2 := HN8.out.1.ln; omega
            rw [hl] at hFl2
            have HPl := Lib.hid (And.intro (show F.length ≤ 4096 by rw [hl]; exact hFl2) (show ∀ j, j < S.objs.length → S2.colE (S.objs.getD j 0) = 0 ∧ S2.colV (S.objs.getD j 0) = if S.objs.getD j 0 ∈ F then 0 else (S.objs.map S.colV).getD j 0 from fun j hj => by
              have hm : S.obj (S.objs.getD j 0) = true := mem_objs.1 (by rw [List.getD_eq_getElem?_getD, List.getElem?_eq_getElem hj]; exact List.getElem_mem _)
              refine ⟨?_, ?_⟩
              · unfold HS.colE
                rw [if_pos (by rw [hpl.2.2.2.1]; exact hm)]
              · rw [hpl.2.2.2.2 _ hm]
                congr 1
                rw [List.getD_eq_getElem?_getD, List.getD_eq_getElem?_getD, List.getElem?_map, List.getElem?_eq_getElem hj]
                rfl))
            have H11 := Lib.hid (And.intro t11 (And.intro oF hl))
            clear hPw hpl t11 oF hl hFl hN11 hS2 hxs2 hup2 hmb hTk hT3 hplain
            have hU2 := hU.out
            subst hU2
            by_cases hl0 : l = 0
            all_goals
              first
              | (have hlb : ¬ (0 : Int) < (l : Int) := by omega)
              | (have hlb : (0 : Int) < (l : Int) := (by omega); have hlbn : 0 < l := (by omega))
              first
              | rw [decide_eq_true (show l ≠ 0 from hl0)] at hup3
              | rw [decide_eq_false (show ¬ l ≠ 0 from fun h => h hl0)] at hup3
              first | rw [Bool.false_or] at hup3 | rw [Bool.true_or] at hup3
              subst hup3
              have HTz : Hid (Touch nob w11 (w11.alloc (Obj.cells #[.int .i64 v] 3))) := (Touch.refl nob w11).alloc _
              have hz := World.alloc_heap_new w11 (Obj.cells #[.int .i64 v] 3)
              obtain ⟨w12, hw12⟩ : ∃ w12, w11.alloc (Obj.cells #[.int .i64 v] 3) = w12 := ⟨_, rfl⟩
              rw [hw12] at HTz hz
              have HTy := Lib.hid (HT11.out.trans HTz.out)
              have HW12 := Lib.hid hw12
              have hz2 := (H11.out.2.1.touch HTz.out (fun _ _ x => x)).ints
              have hNg := hNf.old HTz.out
              clear hNf hw12
              have hNf := hNg
              clear hNg
              have HNf := Lib.hid (show NtI nob W1 A c H n p q f (1 + r6) S2 [v] xs2 _ w12 from hNf)
              have HOa := Lib.hid (And.intro (H10.out.2.1.touch HTy.out (fun _ _ x => x)).ints (And.intro (H10.out.2.2.1.touch HTy.out (fun _ _ x => x)).ints (And.intro (ints_made hz) hz2)))
              clear hNf
              clear hz hz2
              try subst hl0
              go_wp2_with (go_at_call 30; fail)
              rw [HW12.out]
              obtain ⟨uf, hbf, -⟩ := HNf.out.buf
              refine (buf_All2 hbf).mono ?_
              rintro e w13 ⟨v12, rfl, t12, hs12, -⟩
              have H12 := Lib.hid (And.intro t12 (sl_ints hs12))
              clear hbf t12 hs12
              go_wp2_with (go_at_call 18; fail)
              refine (ref01_Same _ _ [v] _ H12.out.2 (HOa.out.2.2.1.old H12.out.1) (by have := HNf.out.ln; omega)).mono ?_
              rintro e w14 ⟨rfl, t13⟩
              have H13 := Lib.hid (H12.out.1.trans t13)
              clear t13
              go_wp2_with (go_at_call 41; fail)
              refine (flag_Up f _ (HNf.out.old H13.out).fl).mono ?_
              rintro e w15 ⟨rfl, rfl⟩
              go_wp2_with (go_at_call 42; fail)
              have g1 := HNf.out.hp.old H13.out
              have g2 := HOa.out.1.old H13.out
              have g3 := HOa.out.2.1.old H13.out
              have g4 := HOa.out.2.2.2.old H13.out
              have g5 : S.objs.length ≤ 4096 := Nat.le_trans H3.out.2.2.2.2.2.1 (by decide)
              have HPq := Lib.hid (law19_painted (col := 0) g1 g2 g3 g4 g5 (by rw [List.length_map]) HPl.out.1 HPl.out.2)
              clear g1 g2 g3 g4 g5
              refine HPq.out.mono ?_
              rintro e w16 ⟨rfl, t15⟩
              have H15 := Lib.hid ((H3.out.1.trans HNf.out.hp.at'.base).trans (H13.out.trans t15))
              clear t15
              go_wp2
              go_ret
              exact ⟨by first | rfl | exact ret_b (by simp), H15.out.below⟩
      · rw [decide_eq_false hvo]
        have hce : S.colE v ≠ 0 := by
          unfold HS.colE
          rw [if_neg (fun h => hvo (mem_objs.2 h))]
          decide
        have hR : noteR S v 0 (1 + r6) bs xs up = (S, bs, xs, up) := by unfold noteR; rw [if_pos (.inr (.inl hce))]
        have hT1 : T = 2 := by
          have h1 := H10.out.2.2.2.2.1
          unfold noteK at h1
          rw [if_neg hv0, if_pos (.inl hce)] at h1
          omega
        have hNf := H10.out.1.old HDr3.out
        rw [hR] at hNf
        clear hR hce
        have HNf := Lib.hid (show NtI nob W1 A c H n p q f (1 + r6) S bs xs up wx from hNf)
        have HOa := Lib.hid (And.intro (H10.out.2.1.touch HDr3.out (fun _ _ x => x)).ints (And.intro (H10.out.2.2.1.touch HDr3.out (fun _ _ x => x)).ints (And.intro (sl_ints (H10.out.2.2.2.1.old HDr3.out)) (show IntsIn wx (.slice none 0 0) [] from ⟨none, 0, rfl, .inl rfl⟩))))
        have HPl := Lib.hid (And.intro (show ([] : List Int).length ≤ 4096 by decide) (hplain S (fun _ => rfl) (fun _ _ => rfl)))
        clear hNf
        subst hT1
        clear hplain
        go_wp2_with (go_at_call 30; fail)
        obtain ⟨uf, hbf, -⟩ := HNf.out.buf
        refine (buf_All2 hbf).mono ?_
        rintro e w12 ⟨v12, rfl, t12, hs12, -⟩
        have H12 := Lib.hid (And.intro t12 (sl_ints hs12))
        clear hbf t12 hs12
        go_wp2_with (go_at_call 18; fail)
        refine (ref01_Same _ _ bs _ H12.out.2 (HOa.out.2.2.1.old H12.out.1) (by have := HNf.out.ln; omega)).mono ?_
        rintro e w13 ⟨rfl, t13⟩
        have H13 := Lib.hid (H12.out.1.trans t13)
        clear t13
        go_wp2_with (go_at_call 41; fail)
        refine (flag_Up f up (HNf.out.old H13.out).fl).mono ?_
        rintro e w14 ⟨rfl, rfl⟩
        go_wp2_with (go_at_call 42; fail)
        refine (law19_painted (col := 0) (HNf.out.hp.old H13.out) (HOa.out.1.old H13.out) (HOa.out.2.1.old H13.out) (HOa.out.2.2.2.old H13.out) (Nat.le_trans H3.out.2.2.2.2.2.1 (by decide)) (by rw [List.length_map]) HPl.out.1 HPl.out.2).mono ?_
        rintro e w15 ⟨rfl, t15⟩
        have H15 := Lib.hid ((H3.out.1.trans HNf.out.hp.at'.base).trans (H13.out.trans t15))
        clear t15
        go_wp2
        go_ret
        exact ⟨by first | rfl | exact ret_b (by simp), H15.out.below⟩
set_option maxRecDepth 20000 in
set_option maxHeartbeats 4000000 in
theorem nnotes_true_false {w : World} (a0 a1 a2 a3 a4 a5 a6 : Int) (th : Value) (r1 : List (List Value)) (s1 : IsSlice w th [some .u8, some .u8, none] r1) (bf : Value) (r2 : List (List Value)) (s2 : IsSlice w bf [some .u8] r2) (bx : Value) (r3 : List (List Value)) (s3 : IsSlice w bx [some .u8] r3) (rm : Int) (hq0 : (Lit.int .u8 rm).wf = true) (up : Bool) (hU : Hid (up = false)) (v : Int) (hTab : Tab w) (hLim : Limits w) (hS : Sizes w) :
    Calls Tryz.prog 6 #[CsV ⟨a0, a1, a2, a3, a4, a5, a6⟩ th bf bx rm up, .int .i64 v, .bool true] w fun e w' => e = .returned (.bool true) ∧ Below w.heap.size w w' := by
  obtain ⟨N0, hI0, -⟩ := rows_of_slice s1 (by simp)
  obtain ⟨ths, -, hth⟩ := ThIn.of_rows hI0
  obtain ⟨ks, hbf, -, hkb⟩ := k_of_slice s2
  obtain ⟨ls, hbx, -, hlb⟩ := k_of_slice s3
  have hrm := bounds_u8 hq0
  obtain ⟨at1, c1, rfl, -⟩ := id hth
  obtain ⟨af, c2, rfl⟩ := hbf.shape
  obtain ⟨ar, c3, rfl⟩ := hbx.shape
  obtain ⟨N, hN⟩ : ∃ N, ths.length = N := ⟨_, rfl⟩
  obtain ⟨M, hM⟩ : ∃ M, ks.length = M := ⟨_, rfl⟩
  obtain ⟨R, hR⟩ : ∃ R, ls.length = R := ⟨_, rfl⟩
  have HG := Lib.hid (And.intro hth (And.intro hbf (And.intro hbx (And.intro hkb (And.intro hlb hrm)))))
  have HLn := Lib.hid (And.intro hN (And.intro hM hR))
  have HL := Lib.hid (And.intro (Laid.mk hLim hS) hTab)
  rw [hN, hM, hR]
  clear hth hbf hbx hkb hlb hI0 s1 s2 s3 hLim hS hTab hN hM hR hq0 hrm
  go_enter Tryz.func6, Tryz.ntmps6
  go_wp2_with fail
  obtain ⟨W0, hW⟩ : ∃ W, W = w.alloc (Obj.cells (CsR ⟨a0, a1, a2, a3, a4, a5, a6⟩ (.slice at1 N c1) (.slice af M c2) (.slice ar R c3) rm up) 54) := ⟨_, rfl⟩
  have hT : Touch nob w W0 := by rw [hW]; (repeat (first | with_reducible exact Touch.refl _ _ | with_reducible assumption | with_reducible apply Touch.alloc | with_reducible apply Touch.drewN | with_reducible apply Touch.drew | with_reducible refine Touch.setCell ?_ (.inr (by first | omega | (simp; done) | (simp; omega))) _))
  obtain ⟨b0, hb0⟩ : ∃ b, b = w.heap.size := ⟨_, rfl⟩
  rw [← hW, ← hb0]
  have hbx : W0.heap[b0]? = some (Obj.cells (CsR ⟨a0, a1, a2, a3, a4, a5, a6⟩ (.slice at1 N c1) (.slice af M c2) (.slice ar R c3) rm up) 54) := by rw [hW, hb0]; exact World.alloc_heap_new w _
  have HB := Lib.hid (And.intro hT hbx)
  clear hW hb0 hT hbx
  obtain ⟨y0, y1, y2, y3, y4, y5, y6, y7, y8, y9, ya, yb⟩ := box12 HB.out.2
  go_wp2_with (go_at_call 26; fail)
  refine (law19_great ⟨a0, a1, a2, a3, a4, a5, a6⟩ W0 at1 af ar N c1 M c2 R c3 rm up).mono ?_
  rintro e w1 ⟨rfl, t1⟩
  have H1 := Lib.hid (And.intro (HB.out.1.trans t1) (blk_touch HB.out.2 t1 (fun x => x)))
  clear t1 HB y0 y1 y2 y3 y4 y5 y6 y7 y8 y9 ya yb
  cases hgt : (decide (30 < N) || decide (40 < M) || decide (40 < R)) with
  | true =>
    go_wp2_with (go_at_call 27; fail)
    refine (law19_awake w1 (HL.out.1.old H1.out.1)).mono ?_
    rintro e w2 ⟨rfl, t2⟩
    have H2 := Lib.hid ((H1.out.1.trans t2).below)
    clear t2
    go_wp2
    go_ret
    exact ⟨rfl, H2.out⟩
  | false =>
    simp only [Bool.or_eq_false_iff, decide_eq_false_iff_not] at hgt
    have HBd := Lib.hid hgt
    clear hgt
    go_wp2_with (go_at_call 27; fail)
    refine (law19_awake w1 (HL.out.1.old H1.out.1)).mono ?_
    rintro e w2 ⟨rfl, t2⟩
    have H2 := Lib.hid (And.intro (H1.out.1.trans t2) (blk_touch H1.out.2 t2 (fun x => x)))
    obtain ⟨y0, y1, y2, y3, y4, y5, y6, y7, y8, y9, ya, yb⟩ := box12 H2.out.2
    clear t2
    go_wp2_with (go_at_call 28; fail)
    obtain ⟨c, hc⟩ : ∃ c, little ⟨a0, a1, a2, a3, a4, a5, a6⟩ = c := ⟨_, rfl⟩
    have hpt := law19_parts ⟨a0, a1, a2, a3, a4, a5, a6⟩ c hc _ _ _ ths ks ls rm up w2 (HL.out.1.old H2.out.1) (HL.out.2.touch H2.out.1 (fun x => x)) (HG.out.1.old H2.out.1) (HG.out.2.1.old H2.out.1) (HG.out.2.2.1.old H2.out.1) (fun j hj => bounds_u8 (HG.out.2.2.2.1 j hj)) (fun j hj => bounds_u8 (HG.out.2.2.2.2.1 j hj)) (by have h1 := HBd.out; have h2 := HLn.out.2.1; omega) (by have h1 := HBd.out; have h2 := HLn.out.2.2; omega) HG.out.2.2.2.2.2
    rw [HLn.out.1, HLn.out.2.1, HLn.out.2.2] at hpt
    refine hpt.mono ?_
    rintro e w3 ⟨A, p, q, f, rfl, W1, S, H, bs, xs, t3, hP, hbm, hxm, hxl, hol⟩
    obtain ⟨r6, hr6⟩ : ∃ r, rm % 6 = r := ⟨_, rfl⟩
    rw [hr6] at hP
    have HR6 := Lib.hid (And.intro hr6 HG.out.2.2.2.2.2)
    have H3 := Lib.hid (And.intro (H2.out.1.trans t3) (And.intro hP (And.intro hbm (And.intro hxm (And.intro hxl (And.intro hol ((HL.out.2.touch H2.out.1 (fun x => x)).touch t3 (fun x => x))))))))
    have HBX : Hid (∀ wr, Touch nob W1 wr → wr.heap[b0]? = some (Obj.cells (CsR ⟨a0, a1, a2, a3, a4, a5, a6⟩ (.slice at1 N c1) (.slice af M c2) (.slice ar R c3) rm up) 54)) := fun wr ht => blk_touch H2.out.2 (t3.trans ht) (fun x => x)
    clear t3 hP hbm hxm hxl hol hc hpt hr6 y0 y1 y2 y3 y4 y5 y6 y7 y8 y9 ya yb
    go_wp2_with (go_at_call 29; fail)
    refine (note_New_ok A.h p q f w3).mono ?_
    rintro e w4 ⟨n, rfl, hn4, t4, hb4⟩
    have HN4 := Lib.hid (H3.out.2.1.nt t4 hn4 hb4)
    clear hn4 t4 hb4
    go_wp2_with (go_at_call 36; fail)
    refine (law19_colors HN4.out.hp (H3.out.2.2.2.2.2.2.touch HN4.out.hp.at'.base (fun x => x)) (Nat.le_trans H3.out.2.2.2.2.2.1 (by decide))).mono ?_
    rintro e w5 ⟨va, vc, rfl, t5, h5, oa, oc⟩
    have HN5 := Lib.hid (HN4.out.heap t5 h5)
    have HO5 := Lib.hid (And.intro oa (And.intro oc t5.size))
    clear t5 h5 oa oc
    have hr6t : rm.tmod 6 = r6 := by rw [Int.tmod_eq_emod_of_nonneg HR6.out.2.1]; exact HR6.out.1
    have hr60 : 0 ≤ r6 := by have := HR6.out; omega
    have hr61 : r6 < 6 := by have := HR6.out; omega
    have hwr : IntKind.i64.wrap r6 = r6 := IntWalk.i64_in _ (by omega)
    have hwr1 : IntKind.i64.wrap (1 + r6) = 1 + r6 := IntWalk.i64_in _ (by omega)
    have HDr : Hid (Touch nob w5 w5.drew) := Touch.drew (Touch.refl _ _)
    have HC := Lib.hid (fun wr (ht : Touch nob w5 wr) => show wr.cell? ⟨b0, 10, none⟩ = some (.int .u8 rm) from (box12 (HBX.out wr (HN5.out.hp.at'.base.trans ht))).2.2.2.2.2.2.2.2.2.2.1)
    have HBa : Hid (Calls Tryz.prog 30 #[pt p] w5.drew fun e w' => ∃ v', e = .returned v' ∧ Touch nob w5.drew w' ∧ SlAt w' v' bs ∧ SubB w5.drew v' (.slice none 0 0)) := by
      obtain ⟨u5, hb5, -⟩ := (HN5.out.old HDr.out).buf
      exact buf_All2 hb5
    obtain ⟨X, hX⟩ : ∃ X, xs.length = X := ⟨_, rfl⟩
    have HBl : Hid (∀ wr, Touch nob w5 wr → Calls Tryz.prog 37 #[pt q] wr fun e w' => e = .returned (.int .i64 X) ∧ wr = w') := fun wr ht => by
      obtain ⟨y6, hx6, -⟩ := (HN5.out.old ht).box
      rw [← hX]
      exact box_Len hx6
    have HX := Lib.hid hX
    clear hX
    go_wp2_with fail
    go_region_held3 (fun w1 => w1.cell? ⟨b0, 10, none⟩ = some (.int .u8 rm)) (first | exact HC.out _ H6.out.1 | exact HC.out _ HDr.out | exact HC.out _ (Touch.refl _ _)) (first
      | (go_at_call 37; refine (HBl.out _ H6.out.1).mono ?_; rintro e w7 ⟨rfl, rfl⟩)
      | (go_at_call 30; refine HBa.out.mono ?_; rintro e w6 ⟨v6, rfl, t6, hs6, hB6⟩; have H6 := Lib.hid (And.intro (HDr.out.trans t6) (And.intro hs6 hB6)); clear t6 hs6 hB6))
    rename_i hheld
    clear hheld
    have HN6 := Lib.hid (HN5.out.old H6.out.1)
    go_wp2_with (go_at_call 38; fail)
    refine (note_Once .nilFunc (.inl rfl) w6).mono ?_
    rintro e w8 ⟨bO, rfl, hbO, t8, hO⟩
    have HN8 := Lib.hid (And.intro (HN6.out.old t8) (And.intro hO (And.intro hbO t8)))
    clear hbO t8 hO
    go_wp2_with (go_at_call 32; fail)
    refine (does_note (m := 1) (v := v) (col := 1) (I := fun _ => True) (Q := fun w' => NtR nob W1 A c H n p q f (1 + r6) (noteR S v 1 (1 + r6) bs xs up) w' ∧ Touch (NoT A p q f) w8 w') (.inr ⟨_, _, rfl⟩) HN8.out.1 (fun _ _ _ => trivial) (fun w' ht hN' => does_once (blk_touch HN8.out.2.1 ht (nt_keep HN6.out HN8.out.2.2.1)) trivial ⟨hN', ht⟩)).mono ?_
    rintro e w9 ⟨sv, rfl, t9, hD⟩
    have HD := Lib.hid hD
    clear t9 hD
    go_wp2_with (go_at_call 31; fail)
    have hKb : 1 + noteK S v 1 (1 + r6) bs xs ≤ 1000 ∧ ((1 + noteK S v 1 (1 + r6) bs xs : Nat) : Int) ≤ 6 + r6 := by
      have h1 := HN8.out.1.ln
      unfold noteK pourK
      split
      · omega
      · split
        · omega
        · split
          · omega
          · split
            · omega
            · split <;> omega
    refine (note_Run (1 + noteK S v 1 (1 + r6) bs xs) 1000 sv HD.out (by omega)).mono ?_
    rintro e w10 ⟨T, rfl, hT, -, hQ⟩
    obtain rfl : T = 1 + noteK S v 1 (1 + r6) bs xs := by omega
    rw [decide_eq_true rfl]
    obtain ⟨hN10, t10⟩ := hQ rfl
    obtain ⟨T, hT2⟩ : ∃ T, 1 + noteK S v 1 (1 + r6) bs xs = T := ⟨_, rfl⟩
    rw [hT2] at hKb ⊢
    have oa10 : Ow w10 w4.heap.size va S.objs := (HO5.out.1.touch (H6.out.1.trans HN8.out.2.2.2) (fun _ _ x => x)).touch t10 (fun g hg => nt_keep HN4.out (HO5.out.1.new g hg))
    have oc10 : Ow w10 w4.heap.size vc (S.objs.map S.colV) := (HO5.out.2.1.touch (H6.out.1.trans HN8.out.2.2.2) (fun _ _ x => x)).touch t10 (fun g hg => nt_keep HN4.out (HO5.out.2.1.new g hg))
    have os10 : SlAt w10 v6 bs := (H6.out.2.1.old HN8.out.2.2.2).touch t10 (fun g hg => nt_keep HN5.out ((H6.out.2.2 g hg).resolve_left (fun e => by cases e)))
    have H10 := Lib.hid (And.intro hN10 (And.intro oa10 (And.intro oc10 (And.intro os10 (And.intro hT2 hKb.2)))))
    clear hKb hT hQ hN10 t10 oa10 oc10 os10 hT2
    have HC2 := Lib.hid (fun wr (ht : Touch nob w10 wr) => show wr.cell? ⟨b0, 11, none⟩ = some (.bool up) from (box12 (HBX.out wr (H10.out.1.hp.at'.base.trans ht))).2.2.2.2.2.2.2.2.2.2.2)
    have HDr2 : Hid (Touch nob w10 w10.drew) := Touch.drew (Touch.refl _ _)
    go_wp2_with fail
    go_region_held3 (fun w1 => w1.cell? ⟨b0, 11, none⟩ = some (.bool up)) (first | exact HC2.out _ HDr2.out | exact HC2.out _ (Touch.refl _ _)) (fail)
    rename_i hheld
    clear hheld
    obtain ⟨w11, hw11⟩ : ∃ w11, w10.drew = w11 := ⟨_, rfl⟩
    rw [hw11] at HDr2 ⊢
    clear hw11
    have hplain : ∀ S2 : HS, (∀ z, S2.obj z = S.obj z) → (∀ z, S.obj z = true → S2.colV z = S.colV z) → ∀ j, j < S.objs.length → S2.colE (S.objs.getD j 0) = 0 ∧ S2.colV (S.objs.getD j 0) = if S.objs.getD j 0 ∈ ([] : List Int) then 1 else (S.objs.map S.colV).getD j 0 := fun S2 h1 h2 j hj => by
      have hm : S.obj (S.objs.getD j 0) = true := mem_objs.1 (by rw [List.getD_eq_getElem?_getD, List.getElem?_eq_getElem hj]; exact List.getElem_mem _)
      refine ⟨by unfold HS.colE; rw [if_pos ((h1 _).trans hm)], ?_⟩
      rw [if_neg (by simp), h2 _ hm, List.getD_eq_getElem?_getD, List.getD_eq_getElem?_getD, List.getElem?_map, List.getElem?_eq_getElem hj]
      rfl
    by_cases hv0 : v = 0
    · have hR : noteR S v 1 (1 + r6) bs xs up = (S, bs, xs, up) := by unfold noteR; rw [if_pos (.inl hv0)]
      have hT1 : T = 1 := by
        have h1 := H10.out.2.2.2.2.1
        unfold noteK at h1
        rw [if_pos hv0] at h1
        omega
      have hNf := H10.out.1.old HDr2.out
      rw [hR] at hNf
      clear hR
      have HNf := Lib.hid (show NtI nob W1 A c H n p q f (1 + r6) S bs xs up w11 from hNf)
      have HOa := Lib.hid (And.intro (H10.out.2.1.touch HDr2.out (fun _ _ x => x)).ints (And.intro (H10.out.2.2.1.touch HDr2.out (fun _ _ x => x)).ints (And.intro (sl_ints (H10.out.2.2.2.1.old HDr2.out)) (show IntsIn w11 (.slice none 0 0) [] from ⟨none, 0, rfl, .inl rfl⟩))))
      have HPl := Lib.hid (And.intro (show ([] : List Int).length ≤ 4096 by decide) (hplain S (fun _ => rfl) (fun _ _ => rfl)))
      clear hNf
      subst hT1 hv0
      clear hplain
      go_wp2_with (go_at_call 30; fail)
      obtain ⟨uf, hbf, -⟩ := HNf.out.buf
      refine (buf_All2 hbf).mono ?_
      rintro e w12 ⟨v12, rfl, t12, hs12, -⟩
      have H12 := Lib.hid (And.intro t12 (sl_ints hs12))
      clear hbf t12 hs12
      go_wp2_with (go_at_call 18; fail)
      refine (ref01_Same _ _ bs _ H12.out.2 (HOa.out.2.2.1.old H12.out.1) (by have := HNf.out.ln; omega)).mono ?_
      rintro e w13 ⟨rfl, t13⟩
      have H13 := Lib.hid (H12.out.1.trans t13)
      clear t13
      go_wp2_with (go_at_call 41; fail)
      refine (flag_Up f up (HNf.out.old H13.out).fl).mono ?_
      rintro e w14 ⟨rfl, rfl⟩
      go_wp2_with (go_at_call 42; fail)
      refine (law19_painted (col := 1) (HNf.out.hp.old H13.out) (HOa.out.1.old H13.out) (HOa.out.2.1.old H13.out) (HOa.out.2.2.2.old H13.out) (Nat.le_trans H3.out.2.2.2.2.2.1 (by decide)) (by rw [List.length_map]) HPl.out.1 HPl.out.2).mono ?_
      rintro e w15 ⟨rfl, t15⟩
      have H15 := Lib.hid ((H3.out.1.trans HNf.out.hp.at'.base).trans (H13.out.trans t15))
      clear t15
      go_wp2
      go_ret
      exact ⟨by first | rfl | exact ret_b (by simp), H15.out.below⟩
    · have hv1 : (v == 0) = false := by simpa using hv0
      go_wp2_with (go_at_call 16; fail)
      refine (ref01_In va S.objs v (H10.out.2.1.touch HDr2.out (fun _ _ x => x)).ints (Nat.le_trans H3.out.2.2.2.2.2.1 (by decide))).mono ?_
      rintro e wx ⟨rfl, tx⟩
      have HDr3 := Lib.hid (HDr2.out.trans tx)
      clear tx
      by_cases hvo : v ∈ S.objs
      · rw [decide_eq_true hvo]
        have hvS : S.obj v = true := mem_objs.1 hvo
        have hce : S.colE v = 0 := by unfold HS.colE; rw [if_pos hvS]
        go_wp2_with (go_at_call 39; fail)
        refine (law19_place va S.objs v (H10.out.2.1.touch HDr3.out (fun _ _ x => x)).ints (Nat.le_trans H3.out.2.2.2.2.2.1 (by decide)) hvo).mono ?_
        rintro e wy ⟨i, rfl, rfl, hi5, hi6⟩
        obtain ⟨g2, o2, p2, e2, hcap2, hcell2⟩ := (H10.out.2.2.1.touch HDr3.out (fun _ _ x => x)).ints.at (k := i) (by rw [List.length_map]; exact hi5)
        have hVi : (S.objs.map S.colV).getD i 0 = S.colV v := by
          rw [← hi6, List.getD_eq_getElem?_getD, List.getD_eq_getElem?_getD, List.getElem?_map, List.getElem?_eq_getElem hi5]
          rfl
        rw [hVi] at hcell2
        rw [List.length_map] at e2 hcap2
        obtain ⟨N, hN⟩ : ∃ N, S.objs.length = N := ⟨_, rfl⟩
        rw [hN] at hi5 e2 hcap2
        subst e2
        have hib : (i : Int) < (N : Int) := by omega
        clear hVi hi6 hN
        by_cases hcv : S.colV v = 1
        · rw [hcv] at hcell2
          have hR : noteR S v 1 (1 + r6) bs xs up = (S, bs, xs, up) := by unfold noteR; rw [if_pos (.inr (.inr hcv))]
          have hT1 : T = 2 := by
            have h1 := H10.out.2.2.2.2.1
            unfold noteK at h1
            rw [if_neg hv0, if_pos (.inr (.inl hcv))] at h1
            omega
          have hNf := H10.out.1.old HDr3.out
          rw [hR] at hNf
          clear hR hce hcv
          have HNf := Lib.hid (show NtI nob W1 A c H n p q f (1 + r6) S bs xs up wx from hNf)
          have HOa := Lib.hid (And.intro (H10.out.2.1.touch HDr3.out (fun _ _ x => x)).ints (And.intro (H10.out.2.2.1.touch HDr3.out (fun _ _ x => x)).ints (And.intro (sl_ints (H10.out.2.2.2.1.old HDr3.out)) (show IntsIn wx (.slice none 0 0) [] from ⟨none, 0, rfl, .inl rfl⟩))))
          clear hNf
          have HPl := Lib.hid (And.intro (show ([] : List Int).length ≤ 4096 by decide) (hplain S (fun _ => rfl) (fun _ _ => rfl)))
          subst hT1
          clear hplain
          go_wp2_with (go_at_call 30; fail)
          obtain ⟨uf, hbf, -⟩ := HNf.out.buf
          refine (buf_All2 hbf).mono ?_
          rintro e w12 ⟨v12, rfl, t12, hs12, -⟩
          have H12 := Lib.hid (And.intro t12 (sl_ints hs12))
          clear hbf t12 hs12
          go_wp2_with (go_at_call 18; fail)
          refine (ref01_Same _ _ bs _ H12.out.2 (HOa.out.2.2.1.old H12.out.1) (by have := HNf.out.ln; omega)).mono ?_
          rintro e w13 ⟨rfl, t13⟩
          have H13 := Lib.hid (H12.out.1.trans t13)
          clear t13
          go_wp2_with (go_at_call 41; fail)
          refine (flag_Up f up (HNf.out.old H13.out).fl).mono ?_
          rintro e w14 ⟨rfl, rfl⟩
          go_wp2_with (go_at_call 42; fail)
          refine (law19_painted (col := 1) (HNf.out.hp.old H13.out) (HOa.out.1.old H13.out) (HOa.out.2.1.old H13.out) (HOa.out.2.2.2.old H13.out) (Nat.le_trans H3.out.2.2.2.2.2.1 (by decide)) (by rw [List.length_map]) HPl.out.1 HPl.out.2).mono ?_
          rintro e w15 ⟨rfl, t15⟩
          have H15 := Lib.hid ((H3.out.1.trans HNf.out.hp.at'.base).trans (H13.out.trans t15))
          clear t15
          go_wp2
          go_ret
          exact ⟨by first | rfl | exact ret_b (by simp), H15.out.below⟩
        · obtain ⟨d, hd⟩ : ∃ d, S.colV v = d := ⟨_, rfl⟩
          rw [hd] at hcell2
          have hdc : (d == 1) = false := by rw [← hd]; simpa using hcv
          have hc0 : ¬ (v = 0 ∨ S.colE v ≠ 0 ∨ S.colV v = 1) := fun h => h.elim hv0 (fun h => h.elim (fun h => h hce) hcv)
          have HCv := Lib.hid (And.intro hcv (And.intro hce hc0))
          clear hcv hd hce hc0
          obtain ⟨L, hL⟩ : ∃ L, bs.length = L := ⟨_, rfl⟩
          have HL := Lib.hid hL
          obtain ⟨a6, c6, e6⟩ := (sl_ints H10.out.2.2.2.1).shape
          rw [hL] at e6
          subst e6
          clear hL
          by_cases hlr : (L : Int) < 1 + r6
          · have hlr' : (bs.length : Int) < 1 + r6 := by rw [HL.out]; exact hlr
            have hR : noteR S v 1 (1 + r6) bs xs up = (S, bs ++ [v], xs, up) := by unfold noteR; rw [if_neg HCv.out.2.2, if_pos hlr']
            have hT1 : T = 2 := by
              have h1 := H10.out.2.2.2.2.1
              unfold noteK at h1
              rw [if_neg hv0, if_pos (.inr (.inr hlr'))] at h1
              omega
            have HR := Lib.hid hR
            have HO0 : Hid (Ow (wx.alloc (Obj.cells #[] 3)) wx.heap.size (.slice (some ⟨wx.heap.size, 0, none⟩) 0 0) []) := World.ownsRow_made (size := 1) wx #[] 0 (Nat.le_refl _) (by unfold maxLen; omega) rfl
            have HX0 := Lib.hid (sx_of_sl (H10.out.2.2.2.1.old (HDr3.out.trans (Touch.alloc (Touch.refl nob wx) (Obj.cells #[] 3)))))
            have hl40 : bs.length ≤ 40 := by have := HR6.out; omega
            clear hR hlr'
            subst hT1
            go_wp2_with (at_builtin; first
              | (refine wpList_append_sx rfl _ _ rfl wx.heap.size _ _ [] bs rfl HO0.out rfl HX0.out (by rw [List.length_nil]; omega) (by simp) ?_; intro v7 w7 hown hgrow hat; have H7 := Lib.hid (And.intro hown (And.intro hgrow (Touch.grown ((Touch.refl nob wx).alloc (Obj.cells #[] 3)) hgrow (fun _ h => by cases h; exact .inr (Nat.le_refl _))))); clear hown hgrow hat)
              | (refine wpList_append_sx rfl _ _ rfl wx.heap.size _ _ bs [v] rfl (H7.out.1.touch (Touch.alloc (Touch.refl nob _) _) (fun _ _ x => x)) rfl (sx_one _ _) (by simp; omega) (by have := H7.out.2.2.size; rw [World.size_alloc]; omega) ?_; intro v8 w8 hown hgrow hat; have H8 := Lib.hid (And.intro hown hgrow); clear hown hgrow hat)
              | fail)
            have HT8 : Hid (Touch nob wx w8) := Touch.grown (H7.out.2.2.alloc _) H8.out.2 (fun g hg => .inr (H7.out.1.new g hg))
            have hNf := H10.out.1.old (HDr3.out.trans HT8.out)
            rw [HR.out] at hNf
            have HNf := Lib.hid (show NtI nob W1 A c H n p q f (1 + r6) S (bs ++ [v]) xs up w8 from hNf)
            have HOa := Lib.hid (And.intro (H10.out.2.1.touch (HDr3.out.trans HT8.out) (fun _ _ x => x)).ints (And.intro (H10.out.2.2.1.touch (HDr3.out.trans HT8.out) (fun _ _ x => x)).ints (And.intro H8.out.1.ints (show IntsIn w8 (.slice none 0 0) [] from ⟨none, 0, rfl, .inl rfl⟩))))
            clear hNf
            have HPl := Lib.hid (And.intro (show ([] : List Int).length ≤ 4096 by decide) (hplain S (fun _ => rfl) (fun _ _ => rfl)))
            clear hplain
            go_wp2_with (go_at_call 30; fail)
            obtain ⟨uf, hbf, -⟩ := HNf.out.buf
            refine (buf_All2 hbf).mono ?_
            rintro e w12 ⟨v12, rfl, t12, hs12, -⟩
            have H12 := Lib.hid (And.intro t12 (sl_ints hs12))
            clear hbf t12 hs12
            go_wp2_with (go_at_call 18; fail)
            refine (ref01_Same _ _ (bs ++ [v]) _ H12.out.2 (HOa.out.2.2.1.old H12.out.1) (by have := HNf.out.ln; omega)).mono ?_
            rintro e w13 ⟨rfl, t13⟩
            have H13 := Lib.hid (H12.out.1.trans t13)
            clear t13
            go_wp2_with (go_at_call 41; fail)
            refine (flag_Up f up (HNf.out.old H13.out).fl).mono ?_
            rintro e w14 ⟨rfl, rfl⟩
            go_wp2_with (go_at_call 42; fail)
            refine (law19_painted (col := 1) (HNf.out.hp.old H13.out) (HOa.out.1.old H13.out) (HOa.out.2.1.old H13.out) (HOa.out.2.2.2.old H13.out) (Nat.le_trans H3.out.2.2.2.2.2.1 (by decide)) (by rw [List.length_map]) HPl.out.1 HPl.out.2).mono ?_
            rintro e w15 ⟨rfl, t15⟩
            have H15 := Lib.hid ((H3.out.1.trans HNf.out.hp.at'.base).trans (H13.out.trans t15))
            clear t15
            go_wp2
            go_ret
            exact ⟨by first | rfl | exact ret_b (by simp), H15.out.below⟩
          · have hlr' : ¬ (bs.length : Int) < 1 + r6 := by rw [HL.out]; exact hlr
            have hR : noteR S v 1 (1 + r6) bs xs up = ((pourR S 1 bs xs up).1, [v], (pourR S 1 bs xs up).2.2) := by unfold noteR; rw [if_neg HCv.out.2.2, if_neg hlr']
            have hT1 : T = 3 + pourK S 1 bs xs := by
              have h1 := H10.out.2.2.2.2.1
              unfold noteK at h1
              rw [if_neg hv0, if_neg (fun h => h.elim (fun h => h HCv.out.2.1) (fun h => h.elim HCv.out.1 hlr'))] at h1
              omega
            have HR := Lib.hid hR
            have HT1 := Lib.hid hT1
            clear hR hT1 hlr'
            go_wp2_with (go_at_call 40; fail)
            have hmb : ∀ z, z ∈ bs → S.obj z = true := fun z hz => mem_objs.1 (H3.out.2.2.1 z hz)
            refine (law19_poured (col := 1) S.colV (H10.out.2.1.touch HDr3.out (fun _ _ x => x)).ints (H10.out.2.2.1.touch HDr3.out (fun _ _ x => x)).ints (sl_ints (H10.out.2.2.2.1.old HDr3.out)) (Nat.le_trans H3.out.2.2.2.2.2.1 (by decide)) (by rw [List.length_map]) (by have := HN8.out.1.ln; omega) H3.out.2.2.1 (fun j hj => by rw [List.getD_eq_getElem?_getD, List.getD_eq_getElem?_getD, List.getElem?_map, List.getElem?_eq_getElem hj]; rfl) X (by have h1 := HX.out; have h2 := H3.out.2.2.2.2.1; omega)).mono ?_
            rintro e w11 ⟨vf, F, k', rfl, t11, oF, hFl, hPw⟩
            rw [← HX.out] at hPw
            have hpl := pour_plain (up := up) (by decide) hmb hPw
            obtain ⟨af2, cf2, rfl⟩ := oF.ints.shape
            obtain ⟨l, hl⟩ : ∃ l, F.length = l := ⟨_, rfl⟩
            rw [hl] at oF ⊢
            obtain ⟨S2, hS2⟩ : ∃ S2, (pourR S 1 bs xs up).1 = S2 := ⟨_, rfl⟩
            obtain ⟨xs2, hxs2⟩ : ∃ xs2, (pourR S 1 bs xs up).2.2.1 = xs2 := ⟨_, rfl⟩
            obtain ⟨up2, hup2⟩ : ∃ up2, (pourR S 1 bs xs up).2.2.2 = up2 := ⟨_, rfl⟩
            have HT11 := Lib.hid (HDr3.out.trans t11)
            have hN11 := H10.out.1.old HT11.out
            rw [HR.out] at hN11
            have hNf : NtI nob W1 A c H n p q f (1 + r6) (pourR S 1 bs xs up).1 [v] (pourR S 1 bs xs up).2.2.1 (pourR S 1 bs xs up).2.2.2 w11 := hN11
            rw [hS2, hxs2, hup2] at hNf
            rw [hS2, hxs2, hup2] at hpl
            have hTk : T = 3 + k' := by have h1 := HT1.out; have h2 := hpl.1; omega
            have hT3 : ((T : Nat) : Int) = 3 + (k' : Int) := by omega
            rw [hT3]
            have hk1 : 3 + (k' : Int) ≤ 6 + r6 := by have := H10.out.2.2.2.2.2; omega
            have hwk : IntKind.i64.wrap (3 + (k' : Int)) = 3 + (k' : Int) := IntWalk.i64_in _ (by omega)
            have hup3 : up2 = (up || decide (l ≠ 0)) := by
              rw [hpl.2.1]
              congr 1
              rw [decide_eq_decide, ← hl]
              exact not_congr List.length_eq_zero_iff.symm
            have hFl2 : F.length ≤ 4096 := by have h2 := HN8.out.1.ln; omega
            rw [hl] at hFl2
            have HPl := Lib.hid (And.intro (show F.length ≤ 4096 by rw [hl]; exact hFl2) (show ∀ j, j < S.objs.length → S2.colE (S.objs.getD j 0) = 0 ∧ S2.colV (S.objs.getD j 0) = if S.objs.getD j 0 ∈ F then 1 else (S.objs.map S.colV).getD j 0 from fun j hj => by
              have hm : S.obj (S.objs.getD j 0) = true := mem_objs.1 (by rw [List.getD_eq_getElem?_getD, List.getElem?_eq_getElem hj]; exact List.getElem_mem _)
              refine ⟨?_, ?_⟩
              · unfold HS.colE
                rw [if_pos (by rw [hpl.2.2.2.1]; exact hm)]
              · rw [hpl.2.2.2.2 _ hm]
                congr 1
                rw [List.getD_eq_getElem?_getD, List.getD_eq_getElem?_getD, List.getElem?_map, List.getElem?_eq_getElem hj]
                rfl))
            have H11 := Lib.hid (And.intro t11 (And.intro oF hl))
            clear hPw hpl t11 oF hl hFl hN11 hS2 hxs2 hup2 hmb hTk hT3 hplain
            have hU2 := hU.out
            subst hU2
            by_cases hl0 : l = 0
            all_goals
              first
              | (have hlb : ¬ (0 : Int) < (l : Int) := by omega)
              | (have hlb : (0 : Int) < (l : Int) := (by omega); have hlbn : 0 < l := (by omega))
              first
              | rw [decide_eq_true (show l ≠ 0 from hl0)] at hup3
              | rw [decide_eq_false (show ¬ l ≠ 0 from fun h => h hl0)] at hup3
              first | rw [Bool.false_or] at hup3 | rw [Bool.true_or] at hup3
              subst hup3
              have HTz : Hid (Touch nob w11 (w11.alloc (Obj.cells #[.int .i64 v] 3))) := (Touch.refl nob w11).alloc _
              have hz := World.alloc_heap_new w11 (Obj.cells #[.int .i64 v] 3)
              obtain ⟨w12, hw12⟩ : ∃ w12, w11.alloc (Obj.cells #[.int .i64 v] 3) = w12 := ⟨_, rfl⟩
              rw [hw12] at HTz hz
              have HTy := Lib.hid (HT11.out.trans HTz.out)
              have HW12 := Lib.hid hw12
              have hz2 := (H11.out.2.1.touch HTz.out (fun _ _ x => x)).ints
              have hNg := hNf.old HTz.out
              clear hNf hw12
              have hNf := hNg
              clear hNg
              have HNf := Lib.hid (show NtI nob W1 A c H n p q f (1 + r6) S2 [v] xs2 _ w12 from hNf)
              have HOa := Lib.hid (And.intro (H10.out.2.1.touch HTy.out (fun _ _ x => x)).ints (And.intro (H10.out.2.2.1.touch HTy.out (fun _ _ x => x)).ints (And.intro (ints_made hz) hz2)))
              clear hNf
              clear hz hz2
              try subst hl0
              go_wp2_with (go_at_call 30; fail)
              rw [HW12.out]
              obtain ⟨uf, hbf, -⟩ := HNf.out.buf
              refine (buf_All2 hbf).mono ?_
              rintro e w13 ⟨v12, rfl, t12, hs12, -⟩
              have H12 := Lib.hid (And.intro t12 (sl_ints hs12))
              clear hbf t12 hs12
              go_wp2_with (go_at_call 18; fail)
              refine (ref01_Same _ _ [v] _ H12.out.2 (HOa.out.2.2.1.old H12.out.1) (by have := HNf.out.ln; omega)).mono ?_
              rintro e w14 ⟨rfl, t13⟩
              have H13 := Lib.hid (H12.out.1.trans t13)
              clear t13
              go_wp2_with (go_at_call 41; fail)
              refine (flag_Up f _ (HNf.out.old H13.out).fl).mono ?_
              rintro e w15 ⟨rfl, rfl⟩
              go_wp2_with (go_at_call 42; fail)
              have g1 := HNf.out.hp.old H13.out
              have g2 := HOa.out.1.old H13.out
              have g3 := HOa.out.2.1.old H13.out
              have g4 := HOa.out.2.2.2.old H13.out
              have g5 : S.objs.length ≤ 4096 := Nat.le_trans H3.out.2.2.2.2.2.1 (by decide)
              have HPq := Lib.hid (law19_painted (col := 1) g1 g2 g3 g4 g5 (by rw [List.length_map]) HPl.out.1 HPl.out.2)
              clear g1 g2 g3 g4 g5
              refine HPq.out.mono ?_
              rintro e w16 ⟨rfl, t15⟩
              have H15 := Lib.hid ((H3.out.1.trans HNf.out.hp.at'.base).trans (H13.out.trans t15))
              clear t15
              go_wp2
              go_ret
              exact ⟨by first | rfl | exact ret_b (by simp), H15.out.below⟩
      · rw [decide_eq_false hvo]
        have hce : S.colE v ≠ 0 := by
          unfold HS.colE
          rw [if_neg (fun h => hvo (mem_objs.2 h))]
          decide
        have hR : noteR S v 1 (1 + r6) bs xs up = (S, bs, xs, up) := by unfold noteR; rw [if_pos (.inr (.inl hce))]
        have hT1 : T = 2 := by
          have h1 := H10.out.2.2.2.2.1
          unfold noteK at h1
          rw [if_neg hv0, if_pos (.inl hce)] at h1
          omega
        have hNf := H10.out.1.old HDr3.out
        rw [hR] at hNf
        clear hR hce
        have HNf := Lib.hid (show NtI nob W1 A c H n p q f (1 + r6) S bs xs up wx from hNf)
        have HOa := Lib.hid (And.intro (H10.out.2.1.touch HDr3.out (fun _ _ x => x)).ints (And.intro (H10.out.2.2.1.touch HDr3.out (fun _ _ x => x)).ints (And.intro (sl_ints (H10.out.2.2.2.1.old HDr3.out)) (show IntsIn wx (.slice none 0 0) [] from ⟨none, 0, rfl, .inl rfl⟩))))
        have HPl := Lib.hid (And.intro (show ([] : List Int).length ≤ 4096 by decide) (hplain S (fun _ => rfl) (fun _ _ => rfl)))
        clear hNf
        subst hT1
        clear hplain
        go_wp2_with (go_at_call 30; fail)
        obtain ⟨uf, hbf, -⟩ := HNf.out.buf
        refine (buf_All2 hbf).mono ?_
        rintro e w12 ⟨v12, rfl, t12, hs12, -⟩
        have H12 := Lib.hid (And.intro t12 (sl_ints hs12))
        clear hbf t12 hs12
        go_wp2_with (go_at_call 18; fail)
        refine (ref01_Same _ _ bs _ H12.out.2 (HOa.out.2.2.1.old H12.out.1) (by have := HNf.out.ln; omega)).mono ?_
        rintro e w13 ⟨rfl, t13⟩
        have H13 := Lib.hid (H12.out.1.trans t13)
        clear t13
        go_wp2_with (go_at_call 41; fail)
        refine (flag_Up f up (HNf.out.old H13.out).fl).mono ?_
        rintro e w14 ⟨rfl, rfl⟩
        go_wp2_with (go_at_call 42; fail)
        refine (law19_painted (col := 1) (HNf.out.hp.old H13.out) (HOa.out.1.old H13.out) (HOa.out.2.1.old H13.out) (HOa.out.2.2.2.old H13.out) (Nat.le_trans H3.out.2.2.2.2.2.1 (by decide)) (by rw [List.length_map]) HPl.out.1 HPl.out.2).mono ?_
        rintro e w15 ⟨rfl, t15⟩
        have H15 := Lib.hid ((H3.out.1.trans HNf.out.hp.at'.base).trans (H13.out.trans t15))
        clear t15
        go_wp2
        go_ret
        exact ⟨by first | rfl | exact ret_b (by simp), H15.out.below⟩
set_option maxRecDepth 20000 in
set_option maxHeartbeats 4000000 in
theorem nnotes_false_true {w : World} (a0 a1 a2 a3 a4 a5 a6 : Int) (th : Value) (r1 : List (List Value)) (s1 : IsSlice w th [some .u8, some .u8, none] r1) (bf : Value) (r2 : List (List Value)) (s2 : IsSlice w bf [some .u8] r2) (bx : Value) (r3 : List (List Value)) (s3 : IsSlice w bx [some .u8] r3) (rm : Int) (hq0 : (Lit.int .u8 rm).wf = true) (up : Bool) (hU : Hid (up = true)) (v : Int) (hTab : Tab w) (hLim : Limits w) (hS : Sizes w) :
    Calls Tryz.prog 6 #[CsV ⟨a0, a1, a2, a3, a4, a5, a6⟩ th bf bx rm up, .int .i64 v, .bool false] w fun e w' => e = .returned (.bool true) ∧ Below w.heap.size w w' := by
  obtain ⟨N0, hI0, -⟩ := rows_of_slice s1 (by simp)
  obtain ⟨ths, -, hth⟩ := ThIn.of_rows hI0
  obtain ⟨ks, hbf, -, hkb⟩ := k_of_slice s2
  obtain ⟨ls, hbx, -, hlb⟩ := k_of_slice s3
  have hrm := bounds_u8 hq0
  obtain ⟨at1, c1, rfl, -⟩ := id hth
  obtain ⟨af, c2, rfl⟩ := hbf.shape
  obtain ⟨ar, c3, rfl⟩ := hbx.shape
  obtain ⟨N, hN⟩ : ∃ N, ths.length = N := ⟨_, rfl⟩
  obtain ⟨M, hM⟩ : ∃ M, ks.length = M := ⟨_, rfl⟩
  obtain ⟨R, hR⟩ : ∃ R, ls.length = R := ⟨_, rfl⟩
  have HG := Lib.hid (And.intro hth (And.intro hbf (And.intro hbx (And.intro hkb (And.intro hlb hrm)))))
  have HLn := Lib.hid (And.intro hN (And.intro hM hR))
  have HL := Lib.hid (And.intro (Laid.mk hLim hS) hTab)
  rw [hN, hM, hR]
  clear hth hbf hbx hkb hlb hI0 s1 s2 s3 hLim hS hTab hN hM hR hq0 hrm
  go_enter Tryz.func6, Tryz.ntmps6
  go_wp2_with fail
  obtain ⟨W0, hW⟩ : ∃ W, W = w.alloc (Obj.cells (CsR ⟨a0, a1, a2, a3, a4, a5, a6⟩ (.slice at1 N c1) (.slice af M c2) (.slice ar R c3) rm up) 54) := ⟨_, rfl⟩
  have hT : Touch nob w W0 := by rw [hW]; (repeat (first | with_reducible exact Touch.refl _ _ | with_reducible assumption | with_reducible apply Touch.alloc | with_reducible apply Touch.drewN | with_reducible apply Touch.drew | with_reducible refine Touch.setCell ?_ (.inr (by first | omega | (simp; done) | (simp; omega))) _))
  obtain ⟨b0, hb0⟩ : ∃ b, b = w.heap.size := ⟨_, rfl⟩
  rw [← hW, ← hb0]
  have hbx : W0.heap[b0]? = some (Obj.cells (CsR ⟨a0, a1, a2, a3, a4, a5, a6⟩ (.slice at1 N c1) (.slice af M c2) (.slice ar R c3) rm up) 54) := by rw [hW, hb0]; exact World.alloc_heap_new w _
  have HB := Lib.hid (And.intro hT hbx)
  clear hW hb0 hT hbx
  obtain ⟨y0, y1, y2, y3, y4, y5, y6, y7, y8, y9, ya, yb⟩ := box12 HB.out.2
  go_wp2_with (go_at_call 26; fail)
  refine (law19_great ⟨a0, a1, a2, a3, a4, a5, a6⟩ W0 at1 af ar N c1 M c2 R c3 rm up).mono ?_
  rintro e w1 ⟨rfl, t1⟩
  have H1 := Lib.hid (And.intro (HB.out.1.trans t1) (blk_touch HB.out.2 t1 (fun x => x)))
  clear t1 HB y0 y1 y2 y3 y4 y5 y6 y7 y8 y9 ya yb
  cases hgt : (decide (30 < N) || decide (40 < M) || decide (40 < R)) with
  | true =>
    go_wp2_with (go_at_call 27; fail)
    refine (law19_awake w1 (HL.out.1.old H1.out.1)).mono ?_
    rintro e w2 ⟨rfl, t2⟩
    have H2 := Lib.hid ((H1.out.1.trans t2).below)
    clear t2
    go_wp2
    go_ret
    exact ⟨rfl, H2.out⟩
  | false =>
    simp only [Bool.or_eq_false_iff, decide_eq_false_iff_not] at hgt
    have HBd := Lib.hid hgt
    clear hgt
    go_wp2_with (go_at_call 27; fail)
    refine (law19_awake w1 (HL.out.1.old H1.out.1)).mono ?_
    rintro e w2 ⟨rfl, t2⟩
    have H2 := Lib.hid (And.intro (H1.out.1.trans t2) (blk_touch H1.out.2 t2 (fun x => x)))
    obtain ⟨y0, y1, y2, y3, y4, y5, y6, y7, y8, y9, ya, yb⟩ := box12 H2.out.2
    clear t2
    go_wp2_with (go_at_call 28; fail)
    obtain ⟨c, hc⟩ : ∃ c, little ⟨a0, a1, a2, a3, a4, a5, a6⟩ = c := ⟨_, rfl⟩
    have hpt := law19_parts ⟨a0, a1, a2, a3, a4, a5, a6⟩ c hc _ _ _ ths ks ls rm up w2 (HL.out.1.old H2.out.1) (HL.out.2.touch H2.out.1 (fun x => x)) (HG.out.1.old H2.out.1) (HG.out.2.1.old H2.out.1) (HG.out.2.2.1.old H2.out.1) (fun j hj => bounds_u8 (HG.out.2.2.2.1 j hj)) (fun j hj => bounds_u8 (HG.out.2.2.2.2.1 j hj)) (by have h1 := HBd.out; have h2 := HLn.out.2.1; omega) (by have h1 := HBd.out; have h2 := HLn.out.2.2; omega) HG.out.2.2.2.2.2
    rw [HLn.out.1, HLn.out.2.1, HLn.out.2.2] at hpt
    refine hpt.mono ?_
    rintro e w3 ⟨A, p, q, f, rfl, W1, S, H, bs, xs, t3, hP, hbm, hxm, hxl, hol⟩
    obtain ⟨r6, hr6⟩ : ∃ r, rm % 6 = r := ⟨_, rfl⟩
    rw [hr6] at hP
    have HR6 := Lib.hid (And.intro hr6 HG.out.2.2.2.2.2)
    have H3 := Lib.hid (And.intro (H2.out.1.trans t3) (And.intro hP (And.intro hbm (And.intro hxm (And.intro hxl (And.intro hol ((HL.out.2.touch H2.out.1 (fun x => x)).touch t3 (fun x => x))))))))
    have HBX : Hid (∀ wr, Touch nob W1 wr → wr.heap[b0]? = some (Obj.cells (CsR ⟨a0, a1, a2, a3, a4, a5, a6⟩ (.slice at1 N c1) (.slice af M c2) (.slice ar R c3) rm up) 54)) := fun wr ht => blk_touch H2.out.2 (t3.trans ht) (fun x => x)
    clear t3 hP hbm hxm hxl hol hc hpt hr6 y0 y1 y2 y3 y4 y5 y6 y7 y8 y9 ya yb
    go_wp2_with (go_at_call 29; fail)
    refine (note_New_ok A.h p q f w3).mono ?_
    rintro e w4 ⟨n, rfl, hn4, t4, hb4⟩
    have HN4 := Lib.hid (H3.out.2.1.nt t4 hn4 hb4)
    clear hn4 t4 hb4
    go_wp2_with (go_at_call 36; fail)
    refine (law19_colors HN4.out.hp (H3.out.2.2.2.2.2.2.touch HN4.out.hp.at'.base (fun x => x)) (Nat.le_trans H3.out.2.2.2.2.2.1 (by decide))).mono ?_
    rintro e w5 ⟨va, vc, rfl, t5, h5, oa, oc⟩
    have HN5 := Lib.hid (HN4.out.heap t5 h5)
    have HO5 := Lib.hid (And.intro oa (And.intro oc t5.size))
    clear t5 h5 oa oc
    have hr6t : rm.tmod 6 = r6 := by rw [Int.tmod_eq_emod_of_nonneg HR6.out.2.1]; exact HR6.out.1
    have hr60 : 0 ≤ r6 := by have := HR6.out; omega
    have hr61 : r6 < 6 := by have := HR6.out; omega
    have hwr : IntKind.i64.wrap r6 = r6 := IntWalk.i64_in _ (by omega)
    have hwr1 : IntKind.i64.wrap (1 + r6) = 1 + r6 := IntWalk.i64_in _ (by omega)
    have HDr : Hid (Touch nob w5 w5.drew) := Touch.drew (Touch.refl _ _)
    have HC := Lib.hid (fun wr (ht : Touch nob w5 wr) => show wr.cell? ⟨b0, 10, none⟩ = some (.int .u8 rm) from (box12 (HBX.out wr (HN5.out.hp.at'.base.trans ht))).2.2.2.2.2.2.2.2.2.2.1)
    have HBa : Hid (Calls Tryz.prog 30 #[pt p] w5.drew fun e w' => ∃ v', e = .returned v' ∧ Touch nob w5.drew w' ∧ SlAt w' v' bs ∧ SubB w5.drew v' (.slice none 0 0)) := by
      obtain ⟨u5, hb5, -⟩ := (HN5.out.old HDr.out).buf
      exact buf_All2 hb5
    obtain ⟨X, hX⟩ : ∃ X, xs.length = X := ⟨_, rfl⟩
    have HBl : Hid (∀ wr, Touch nob w5 wr → Calls Tryz.prog 37 #[pt q] wr fun e w' => e = .returned (.int .i64 X) ∧ wr = w') := fun wr ht => by
      obtain ⟨y6, hx6, -⟩ := (HN5.out.old ht).box
      rw [← hX]
      exact box_Len hx6
    have HX := Lib.hid hX
    clear hX
    go_wp2_with fail
    go_region_held3 (fun w1 => w1.cell? ⟨b0, 10, none⟩ = some (.int .u8 rm)) (first | exact HC.out _ H6.out.1 | exact HC.out _ HDr.out | exact HC.out _ (Touch.refl _ _)) (first
      | (go_at_call 37; refine (HBl.out _ H6.out.1).mono ?_; rintro e w7 ⟨rfl, rfl⟩)
      | (go_at_call 30; refine HBa.out.mono ?_; rintro e w6 ⟨v6, rfl, t6, hs6, hB6⟩; have H6 := Lib.hid (And.intro (HDr.out.trans t6) (And.intro hs6 hB6)); clear t6 hs6 hB6))
    rename_i hheld
    clear hheld
    have HN6 := Lib.hid (HN5.out.old H6.out.1)
    go_wp2_with (go_at_call 38; fail)
    refine (note_Once .nilFunc (.inl rfl) w6).mono ?_
    rintro e w8 ⟨bO, rfl, hbO, t8, hO⟩
    have HN8 := Lib.hid (And.intro (HN6.out.old t8) (And.intro hO (And.intro hbO t8)))
    clear hbO t8 hO
    go_wp2_with (go_at_call 32; fail)
    refine (does_note (m := 1) (v := v) (col := 0) (I := fun _ => True) (Q := fun w' => NtR nob W1 A c H n p q f (1 + r6) (noteR S v 0 (1 + r6) bs xs up) w' ∧ Touch (NoT A p q f) w8 w') (.inr ⟨_, _, rfl⟩) HN8.out.1 (fun _ _ _ => trivial) (fun w' ht hN' => does_once (blk_touch HN8.out.2.1 ht (nt_keep HN6.out HN8.out.2.2.1)) trivial ⟨hN', ht⟩)).mono ?_
    rintro e w9 ⟨sv, rfl, t9, hD⟩
    have HD := Lib.hid hD
    clear t9 hD
    go_wp2_with (go_at_call 31; fail)
    have hKb : 1 + noteK S v 0 (1 + r6) bs xs ≤ 1000 ∧ ((1 + noteK S v 0 (1 + r6) bs xs : Nat) : Int) ≤ 6 + r6 := by
      have h1 := HN8.out.1.ln
      unfold noteK pourK
      split
      · omega
      · split
        · omega
        · split
          · omega
          · split
            · omega
            · split <;> omega
    refine (note_Run (1 + noteK S v 0 (1 + r6) bs xs) 1000 sv HD.out (by omega)).mono ?_
    rintro e w10 ⟨T, rfl, hT, -, hQ⟩
    obtain rfl : T = 1 + noteK S v 0 (1 + r6) bs xs := by omega
    rw [decide_eq_true rfl]
    obtain ⟨hN10, t10⟩ := hQ rfl
    obtain ⟨T, hT2⟩ : ∃ T, 1 + noteK S v 0 (1 + r6) bs xs = T := ⟨_, rfl⟩
    rw [hT2] at hKb ⊢
    have oa10 : Ow w10 w4.heap.size va S.objs := (HO5.out.1.touch (H6.out.1.trans HN8.out.2.2.2) (fun _ _ x => x)).touch t10 (fun g hg => nt_keep HN4.out (HO5.out.1.new g hg))
    have oc10 : Ow w10 w4.heap.size vc (S.objs.map S.colV) := (HO5.out.2.1.touch (H6.out.1.trans HN8.out.2.2.2) (fun _ _ x => x)).touch t10 (fun g hg => nt_keep HN4.out (HO5.out.2.1.new g hg))
    have os10 : SlAt w10 v6 bs := (H6.out.2.1.old HN8.out.2.2.2).touch t10 (fun g hg => nt_keep HN5.out ((H6.out.2.2 g hg).resolve_left (fun e => by cases e)))
    have H10 := Lib.hid (And.intro hN10 (And.intro oa10 (And.intro oc10 (And.intro os10 (And.intro hT2 hKb.2)))))
    clear hKb hT hQ hN10 t10 oa10 oc10 os10 hT2
    have HC2 := Lib.hid (fun wr (ht : Touch nob w10 wr) => show wr.cell? ⟨b0, 11, none⟩ = some (.bool up) from (box12 (HBX.out wr (H10.out.1.hp.at'.base.trans ht))).2.2.2.2.2.2.2.2.2.2.2)
    have HDr2 : Hid (Touch nob w10 w10.drew) := Touch.drew (Touch.refl _ _)
    go_wp2_with fail
    go_region_held3 (fun w1 => w1.cell? ⟨b0, 11, none⟩ = some (.bool up)) (first | exact HC2.out _ HDr2.out | exact HC2.out _ (Touch.refl _ _)) (fail)
    rename_i hheld
    clear hheld
    obtain ⟨w11, hw11⟩ : ∃ w11, w10.drew = w11 := ⟨_, rfl⟩
    rw [hw11] at HDr2 ⊢
    clear hw11
    have hplain : ∀ S2 : HS, (∀ z, S2.obj z = S.obj z) → (∀ z, S.obj z = true → S2.colV z = S.colV z) → ∀ j, j < S.objs.length → S2.colE (S.objs.getD j 0) = 0 ∧ S2.colV (S.objs.getD j 0) = if S.objs.getD j 0 ∈ ([] : List Int) then 0 else (S.objs.map S.colV).getD j 0 := fun S2 h1 h2 j hj => by
      have hm : S.obj (S.objs.getD j 0) = true := mem_objs.1 (by rw [List.getD_eq_getElem?_getD, List.getElem?_eq_getElem hj]; exact List.getElem_mem _)
      refine ⟨by unfold HS.colE; rw [if_pos ((h1 _).trans hm)], ?_⟩
      rw [if_neg (by simp), h2 _ hm, List.getD_eq_getElem?_getD, List.getD_eq_getElem?_getD, List.getElem?_map, List.getElem?_eq_getElem hj]
      rfl
    by_cases hv0 : v = 0
    · have hR : noteR S v 0 (1 + r6) bs xs up = (S, bs, xs, up) := by unfold noteR; rw [if_pos (.inl hv0)]
      have hT1 : T = 1 := by
        have h1 := H10.out.2.2.2.2.1
        unfold noteK at h1
        rw [if_pos hv0] at h1
        omega
      have hNf := H10.out.1.old HDr2.out
      rw [hR] at hNf
      clear hR
      have HNf := Lib.hid (show NtI nob W1 A c H n p q f (1 + r6) S bs xs up w11 from hNf)
      have HOa := Lib.hid (And.intro (H10.out.2.1.touch HDr2.out (fun _ _ x => x)).ints (And.intro (H10.out.2.2.1.touch HDr2.out (fun _ _ x => x)).ints (And.intro (sl_ints (H10.out.2.2.2.1.old HDr2.out)) (show IntsIn w11 (.slice none 0 0) [] from ⟨none, 0, rfl, .inl rfl⟩))))
      have HPl := Lib.hid (And.intro (show ([] : List Int).length ≤ 4096 by decide) (hplain S (fun _ => rfl) (fun _ _ => rfl)))
      clear hNf
      subst hT1 hv0
      clear hplain
      go_wp2_with (go_at_call 30; fail)
      obtain ⟨uf, hbf, -⟩ := HNf.out.buf
      refine (buf_All2 hbf).mono ?_
      rintro e w12 ⟨v12, rfl, t12, hs12, -⟩
      have H12 := Lib.hid (And.intro t12 (sl_ints hs12))
      clear hbf t12 hs12
      go_wp2_with (go_at_call 18; fail)
      refine (ref01_Same _ _ bs _ H12.out.2 (HOa.out.2.2.1.old H12.out.1) (by have := HNf.out.ln; omega)).mono ?_
      rintro e w13 ⟨rfl, t13⟩
      have H13 := Lib.hid (H12.out.1.trans t13)
      clear t13
      go_wp2_with (go_at_call 41; fail)
      refine (flag_Up f up (HNf.out.old H13.out).fl).mono ?_
      rintro e w14 ⟨rfl, rfl⟩
      go_wp2_with (go_at_call 42; fail)
      refine (law19_painted (col := 0) (HNf.out.hp.old H13.out) (HOa.out.1.old H13.out) (HOa.out.2.1.old H13.out) (HOa.out.2.2.2.old H13.out) (Nat.le_trans H3.out.2.2.2.2.2.1 (by decide)) (by rw [List.length_map]) HPl.out.1 HPl.out.2).mono ?_
      rintro e w15 ⟨rfl, t15⟩
      have H15 := Lib.hid ((H3.out.1.trans HNf.out.hp.at'.base).trans (H13.out.trans t15))
      clear t15
      go_wp2
      go_ret
      exact ⟨by first | rfl | exact ret_b (by simp), H15.out.below⟩
    · have hv1 : (v == 0) = false := by simpa using hv0
      go_wp2_with (go_at_call 16; fail)
      refine (ref01_In va S.objs v (H10.out.2.1.touch HDr2.out (fun _ _ x => x)).ints (Nat.le_trans H3.out.2.2.2.2.2.1 (by decide))).mono ?_
      rintro e wx ⟨rfl, tx⟩
      have HDr3 := Lib.hid (HDr2.out.trans tx)
      clear tx
      by_cases hvo : v ∈ S.objs
      · rw [decide_eq_true hvo]
        have hvS : S.obj v = true := mem_objs.1 hvo
        have hce : S.colE v = 0 := by unfold HS.colE; rw [if_pos hvS]
        go_wp2_with (go_at_call 39; fail)
        refine (law19_place va S.objs v (H10.out.2.1.touch HDr3.out (fun _ _ x => x)).ints (Nat.le_trans H3.out.2.2.2.2.2.1 (by decide)) hvo).mono ?_
        rintro e wy ⟨i, rfl, rfl, hi5, hi6⟩
        obtain ⟨g2, o2, p2, e2, hcap2, hcell2⟩ := (H10.out.2.2.1.touch HDr3.out (fun _ _ x => x)).ints.at (k := i) (by rw [List.length_map]; exact hi5)
        have hVi : (S.objs.map S.colV).getD i 0 = S.colV v := by
          rw [← hi6, List.getD_eq_getElem?_getD, List.getD_eq_getElem?_getD, List.getElem?_map, List.getElem?_eq_getElem hi5]
          rfl
        rw [hVi] at hcell2
        rw [List.length_map] at e2 hcap2
        obtain ⟨N, hN⟩ : ∃ N, S.objs.length = N := ⟨_, rfl⟩
        rw [hN] at hi5 e2 hcap2
        subst e2
        have hib : (i : Int) < (N : Int) := by omega
        clear hVi hi6 hN
        by_cases hcv : S.colV v = 0
        · rw [hcv] at hcell2
          have hR : noteR S v 0 (1 + r6) bs xs up = (S, bs, xs, up) := by unfold noteR; rw [if_pos (.inr (.inr hcv))]
          have hT1 : T = 2 := by
            have h1 := H10.out.2.2.2.2.1
            unfold noteK at h1
            rw [if_neg hv0, if_pos (.inr (.inl hcv))] at h1
            omega
          have hNf := H10.out.1.old HDr3.out
          rw [hR] at hNf
          clear hR hce hcv
          have HNf := Lib.hid (show NtI nob W1 A c H n p q f (1 + r6) S bs xs up wx from hNf)
          have HOa := Lib.hid (And.intro (H10.out.2.1.touch HDr3.out (fun _ _ x => x)).ints (And.intro (H10.out.2.2.1.touch HDr3.out (fun _ _ x => x)).ints (And.intro (sl_ints (H10.out.2.2.2.1.old HDr3.out)) (show IntsIn wx (.slice none 0 0) [] from ⟨none, 0, rfl, .inl rfl⟩))))
          clear hNf
          have HPl := Lib.hid (And.intro (show ([] : List Int).length ≤ 4096 by decide) (hplain S (fun _ => rfl) (fun _ _ => rfl)))
          subst hT1
          clear hplain
          go_wp2_with (go_at_call 30; fail)
          obtain ⟨uf, hbf, -⟩ := HNf.out.buf
          refine (buf_All2 hbf).mono ?_
          rintro e w12 ⟨v12, rfl, t12, hs12, -⟩
          have H12 := Lib.hid (And.intro t12 (sl_ints hs12))
          clear hbf t12 hs12
          go_wp2_with (go_at_call 18; fail)
          refine (ref01_Same _ _ bs _ H12.out.2 (HOa.out.2.2.1.old H12.out.1) (by have := HNf.out.ln; omega)).mono ?_
          rintro e w13 ⟨rfl, t13⟩
          have H13 := Lib.hid (H12.out.1.trans t13)
          clear t13
          go_wp2_with (go_at_call 41; fail)
          refine (flag_Up f up (HNf.out.old H13.out).fl).mono ?_
          rintro e w14 ⟨rfl, rfl⟩
          go_wp2_with (go_at_call 42; fail)
          refine (law19_painted (col := 0) (HNf.out.hp.old H13.out) (HOa.out.1.old H13.out) (HOa.out.2.1.old H13.out) (HOa.out.2.2.2.old H13.out) (Nat.le_trans H3.out.2.2.2.2.2.1 (by decide)) (by rw [List.length_map]) HPl.out.1 HPl.out.2).mono ?_
          rintro e w15 ⟨rfl, t15⟩
          have H15 := Lib.hid ((H3.out.1.trans HNf.out.hp.at'.base).trans (H13.out.trans t15))
          clear t15
          go_wp2
          go_ret
          exact ⟨by first | rfl | exact ret_b (by simp), H15.out.below⟩
        · obtain ⟨d, hd⟩ : ∃ d, S.colV v = d := ⟨_, rfl⟩
          rw [hd] at hcell2
          have hdc : (d == 0) = false := by rw [← hd]; simpa using hcv
          have hc0 : ¬ (v = 0 ∨ S.colE v ≠ 0 ∨ S.colV v = 0) := fun h => h.elim hv0 (fun h => h.elim (fun h => h hce) hcv)
          have HCv := Lib.hid (And.intro hcv (And.intro hce hc0))
          clear hcv hd hce hc0
          obtain ⟨L, hL⟩ : ∃ L, bs.length = L := ⟨_, rfl⟩
          have HL := Lib.hid hL
          obtain ⟨a6, c6, e6⟩ := (sl_ints H10.out.2.2.2.1).shape
          rw [hL] at e6
          subst e6
          clear hL
          by_cases hlr : (L : Int) < 1 + r6
          · have hlr' : (bs.length : Int) < 1 + r6 := by rw [HL.out]; exact hlr
            have hR : noteR S v 0 (1 + r6) bs xs up = (S, bs ++ [v], xs, up) := by unfold noteR; rw [if_neg HCv.out.2.2, if_pos hlr']
            have hT1 : T = 2 := by
              have h1 := H10.out.2.2.2.2.1
              unfold noteK at h1
              rw [if_neg hv0, if_pos (.inr (.inr hlr'))] at h1
              omega
            have HR := Lib.hid hR
            have HO0 : Hid (Ow (wx.alloc (Obj.cells #[] 3)) wx.heap.size (.slice (some ⟨wx.heap.size, 0, none⟩) 0 0) []) := World.ownsRow_made (size := 1) wx #[] 0 (Nat.le_refl _) (by unfold maxLen; omega) rfl
            have HX0 := Lib.hid (sx_of_sl (H10.out.2.2.2.1.old (HDr3.out.trans (Touch.alloc (Touch.refl nob wx) (Obj.cells #[] 3)))))
            have hl40 : bs.length ≤ 40 := by have := HR6.out; omega
            clear hR hlr'
            subst hT1
            go_wp2_with (at_builtin; first
              | (refine wpList_append_sx rfl _ _ rfl wx.heap.size _ _ [] bs rfl HO0.out rfl HX0.out (by rw [List.length_nil]; omega) (by simp) ?_; intro v7 w7 hown hgrow hat; have H7 := Lib.hid (And.intro hown (And.intro hgrow (Touch.grown ((Touch.refl nob wx).alloc (Obj.cells #[] 3)) hgrow (fun _ h => by cases h; exact .inr (Nat.le_refl _))))); clear hown hgrow hat)
              | (refine wpList_append_sx rfl _ _ rfl wx.heap.size _ _ bs [v] rfl (H7.out.1.touch (Touch.alloc (Touch.refl nob _) _) (fun _ _ x => x)) rfl (sx_one _ _) (by simp; omega) (by have := H7.out.2.2.size; rw [World.size_alloc]; omega) ?_; intro v8 w8 hown hgrow hat; have H8 := Lib.hid (And.intro hown hgrow); clear hown hgrow hat)
              | fail)
            have HT8 : Hid (Touch nob wx w8) := Touch.grown (H7.out.2.2.alloc _) H8.out.2 (fun g hg => .inr (H7.out.1.new g hg))
            have hNf := H10.out.1.old (HDr3.out.trans HT8.out)
            rw [HR.out] at hNf
            have HNf := Lib.hid (show NtI nob W1 A c H n p q f (1 + r6) S (bs ++ [v]) xs up w8 from hNf)
            have HOa := Lib.hid (And.intro (H10.out.2.1.touch (HDr3.out.trans HT8.out) (fun _ _ x => x)).ints (And.intro (H10.out.2.2.1.touch (HDr3.out.trans HT8.out) (fun _ _ x => x)).ints (And.intro H8.out.1.ints (show IntsIn w8 (.slice none 0 0) [] from ⟨none, 0, rfl, .inl rfl⟩))))
            clear hNf
            have HPl := Lib.hid (And.intro (show ([] : List Int).length ≤ 4096 by decide) (hplain S (fun _ => rfl) (fun _ _ => rfl)))
            clear hplain
            go_wp2_with (go_at_call 30; fail)
            obtain ⟨uf, hbf, -⟩ := HNf.out.buf
            refine (buf_All2 hbf).mono ?_
            rintro e w12 ⟨v12, rfl, t12, hs12, -⟩
            have H12 := Lib.hid (And.intro t12 (sl_ints hs12))
            clear hbf t12 hs12
            go_wp2_with (go_at_call 18; fail)
            refine (ref01_Same _ _ (bs ++ [v]) _ H12.out.2 (HOa.out.2.2.1.old H12.out.1) (by have := HNf.out.ln; omega)).mono ?_
            rintro e w13 ⟨rfl, t13⟩
            have H13 := Lib.hid (H12.out.1.trans t13)
            clear t13
            go_wp2_with (go_at_call 41; fail)
            refine (flag_Up f up (HNf.out.old H13.out).fl).mono ?_
            rintro e w14 ⟨rfl, rfl⟩
            go_wp2_with (go_at_call 42; fail)
            refine (law19_painted (col := 0) (HNf.out.hp.old H13.out) (HOa.out.1.old H13.out) (HOa.out.2.1.old H13.out) (HOa.out.2.2.2.old H13.out) (Nat.le_trans H3.out.2.2.2.2.2.1 (by decide)) (by rw [List.length_map]) HPl.out.1 HPl.out.2).mono ?_
            rintro e w15 ⟨rfl, t15⟩
            have H15 := Lib.hid ((H3.out.1.trans HNf.out.hp.at'.base).trans (H13.out.trans t15))
            clear t15
            go_wp2
            go_ret
            exact ⟨by first | rfl | exact ret_b (by simp), H15.out.below⟩
          · have hlr' : ¬ (bs.length : Int) < 1 + r6 := by rw [HL.out]; exact hlr
            have hR : noteR S v 0 (1 + r6) bs xs up = ((pourR S 0 bs xs up).1, [v], (pourR S 0 bs xs up).2.2) := by unfold noteR; rw [if_neg HCv.out.2.2, if_neg hlr']
            have hT1 : T = 3 + pourK S 0 bs xs := by
              have h1 := H10.out.2.2.2.2.1
              unfold noteK at h1
              rw [if_neg hv0, if_neg (fun h => h.elim (fun h => h HCv.out.2.1) (fun h => h.elim HCv.out.1 hlr'))] at h1
              omega
            have HR := Lib.hid hR
            have HT1 := Lib.hid hT1
            clear hR hT1 hlr'
            go_wp2_with (go_at_call 40; fail)
            have hmb : ∀ z, z ∈ bs → S.obj z = true := fun z hz => mem_objs.1 (H3.out.2.2.1 z hz)
            refine (law19_poured (col := 0) S.colV (H10.out.2.1.touch HDr3.out (fun _ _ x => x)).ints (H10.out.2.2.1.touch HDr3.out (fun _ _ x => x)).ints (sl_ints (H10.out.2.2.2.1.old HDr3.out)) (Nat.le_trans H3.out.2.2.2.2.2.1 (by decide)) (by rw [List.length_map]) (by have := HN8.out.1.ln; omega) H3.out.2.2.1 (fun j hj => by rw [List.getD_eq_getElem?_getD, List.getD_eq_getElem?_getD, List.getElem?_map, List.getElem?_eq_getElem hj]; rfl) X (by have h1 := HX.out; have h2 := H3.out.2.2.2.2.1; omega)).mono ?_
            rintro e w11 ⟨vf, F, k', rfl, t11, oF, hFl, hPw⟩
            rw [← HX.out] at hPw
            have hpl := pour_plain (up := up) (by decide) hmb hPw
            obtain ⟨af2, cf2, rfl⟩ := oF.ints.shape
            obtain ⟨l, hl⟩ : ∃ l, F.length = l := ⟨_, rfl⟩
            rw [hl] at oF ⊢
            obtain ⟨S2, hS2⟩ : ∃ S2, (pourR S 0 bs xs up).1 = S2 := ⟨_, rfl⟩
            obtain ⟨xs2, hxs2⟩ : ∃ xs2, (pourR S 0 bs xs up).2.2.1 = xs2 := ⟨_, rfl⟩
            obtain ⟨up2, hup2⟩ : ∃ up2, (pourR S 0 bs xs up).2.2.2 = up2 := ⟨_, rfl⟩
            have HT11 := Lib.hid (HDr3.out.trans t11)
            have hN11 := H10.out.1.old HT11.out
            rw [HR.out] at hN11
            have hNf : NtI nob W1 A c H n p q f (1 + r6) (pourR S 0 bs xs up).1 [v] (pourR S 0 bs xs up).2.2.1 (pourR S 0 bs xs up).2.2.2 w11 := hN11
            rw [hS2, hxs2, hup2] at hNf
            rw [hS2, hxs2, hup2] at hpl
            have hTk : T = 3 + k' := by have h1 := HT1.out; have h2 := hpl.1; omega
            have hT3 : ((T : Nat) : Int) = 3 + (k' : Int) := by omega
            rw [hT3]
            have hk1 : 3 + (k' : Int) ≤ 6 + r6 := by have := H10.out.2.2.2.2.2; omega
            have hwk : IntKind.i64.wrap (3 + (k' : Int)) = 3 + (k' : Int) := IntWalk.i64_in _ (by omega)
            have hup3 : up2 = (up || decide (l ≠ 0)) := by
              rw [hpl.2.1]
              congr 1
              rw [decide_eq_decide, ← hl]
              exact not_congr List.length_eq_zero_iff.symm
            have hFl2 : F.length ≤ 4096 := by have h2 := HN8.out.1.ln; omega
            rw [hl] at hFl2
            have HPl := Lib.hid (And.intro (show F.length ≤ 4096 by rw [hl]; exact hFl2) (show ∀ j, j < S.objs.length → S2.colE (S.objs.getD j 0) = 0 ∧ S2.colV (S.objs.getD j 0) = if S.objs.getD j 0 ∈ F then 0 else (S.objs.map S.colV).getD j 0 from fun j hj => by
              have hm : S.obj (S.objs.getD j 0) = true := mem_objs.1 (by rw [List.getD_eq_getElem?_getD, List.getElem?_eq_getElem hj]; exact List.getElem_mem _)
              refine ⟨?_, ?_⟩
              · unfold HS.colE
                rw [if_pos (by rw [hpl.2.2.2.1]; exact hm)]
              · rw [hpl.2.2.2.2 _ hm]
                congr 1
                rw [List.getD_eq_getElem?_getD, List.getD_eq_getElem?_getD, List.getElem?_map, List.getElem?_eq_getElem hj]
                rfl))
            have H11 := Lib.hid (And.intro t11 (And.intro oF hl))
            clear hPw hpl t11 oF hl hFl hN11 hS2 hxs2 hup2 hmb hTk hT3 hplain
            have hU2 := hU.out
            subst hU2
            by_cases hl0 : l = 0
            all_goals
              first
              | (have hlb : ¬ (0 : Int) < (l : Int) := by omega)
              | (have hlb : (0 : Int) < (l : Int) := (by omega); have hlbn : 0 < l := (by omega))
              first
              | rw [decide_eq_true (show l ≠ 0 from hl0)] at hup3
              | rw [decide_eq_false (show ¬ l ≠ 0 from fun h => h hl0)] at hup3
              first | rw [Bool.false_or] at hup3 | rw [Bool.true_or] at hup3
              subst hup3
              have HTz : Hid (Touch nob w11 (w11.alloc (Obj.cells #[.int .i64 v] 3))) := (Touch.refl nob w11).alloc _
              have hz := World.alloc_heap_new w11 (Obj.cells #[.int .i64 v] 3)
              obtain ⟨w12, hw12⟩ : ∃ w12, w11.alloc (Obj.cells #[.int .i64 v] 3) = w12 := ⟨_, rfl⟩
              rw [hw12] at HTz hz
              have HTy := Lib.hid (HT11.out.trans HTz.out)
              have HW12 := Lib.hid hw12
              have hz2 := (H11.out.2.1.touch HTz.out (fun _ _ x => x)).ints
              have hNg := hNf.old HTz.out
              clear hNf hw12
              have hNf := hNg
              clear hNg
              have HNf := Lib.hid (show NtI nob W1 A c H n p q f (1 + r6) S2 [v] xs2 _ w12 from hNf)
              have HOa := Lib.hid (And.intro (H10.out.2.1.touch HTy.out (fun _ _ x => x)).ints (And.intro (H10.out.2.2.1.touch HTy.out (fun _ _ x => x)).ints (And.intro (ints_made hz) hz2)))
              clear hNf
              clear hz hz2
              try subst hl0
              go_wp2_with (go_at_call 30; fail)
              rw [HW12.out]
              obtain ⟨uf, hbf, -⟩ := HNf.out.buf
              refine (buf_All2 hbf).mono ?_
              rintro e w13 ⟨v12, rfl, t12, hs12, -⟩
              have H12 := Lib.hid (And.intro t12 (sl_ints hs12))
              clear hbf t12 hs12
              go_wp2_with (go_at_call 18; fail)
              refine (ref01_Same _ _ [v] _ H12.out.2 (HOa.out.2.2.1.old H12.out.1) (by have := HNf.out.ln; omega)).mono ?_
              rintro e w14 ⟨rfl, t13⟩
              have H13 := Lib.hid (H12.out.1.trans t13)
              clear t13
              go_wp2_with (go_at_call 41; fail)
              refine (flag_Up f _ (HNf.out.old H13.out).fl).mono ?_
              rintro e w15 ⟨rfl, rfl⟩
              go_wp2_with (go_at_call 42; fail)
              have g1 := HNf.out.hp.old H13.out
              have g2 := HOa.out.1.old H13.out
              have g3 := HOa.out.2.1.old H13.out
              have g4 := HOa.out.2.2.2.old H13.out
              have g5 : S.objs.length ≤ 4096 := Nat.le_trans H3.out.2.2.2.2.2.1 (by decide)
              have HPq := Lib.hid (law19_painted (col := 0) g1 g2 g3 g4 g5 (by rw [List.length_map]) HPl.out.1 HPl.out.2)
              clear g1 g2 g3 g4 g5
              refine HPq.out.mono ?_
              rintro e w16 ⟨rfl, t15⟩
              have H15 := Lib.hid ((H3.out.1.trans HNf.out.hp.at'.base).trans (H13.out.trans t15))
              clear t15
              go_wp2
              go_ret
              exact ⟨by first | rfl | exact ret_b (by simp), H15.out.below⟩
      · rw [decide_eq_false hvo]
        have hce : S.colE v ≠ 0 := by
          unfold HS.colE
          rw [if_neg (fun h => hvo (mem_objs.2 h))]
          decide
        have hR : noteR S v 0 (1 + r6) bs xs up = (S, bs, xs, up) := by unfold noteR; rw [if_pos (.inr (.inl hce))]
        have hT1 : T = 2 := by
          have h1 := H10.out.2.2.2.2.1
          unfold noteK at h1
          rw [if_neg hv0, if_pos (.inl hce)] at h1
          omega
        have hNf := H10.out.1.old HDr3.out
        rw [hR] at hNf
        clear hR hce
        have HNf := Lib.hid (show NtI nob W1 A c H n p q f (1 + r6) S bs xs up wx from hNf)
        have HOa := Lib.hid (And.intro (H10.out.2.1.touch HDr3.out (fun _ _ x => x)).ints (And.intro (H10.out.2.2.1.touch HDr3.out (fun _ _ x => x)).ints (And.intro (sl_ints (H10.out.2.2.2.1.old HDr3.out)) (show IntsIn wx (.slice none 0 0) [] from ⟨none, 0, rfl, .inl rfl⟩))))
        have HPl := Lib.hid (And.intro (show ([] : List Int).length ≤ 4096 by decide) (hplain S (fun _ => rfl) (fun _ _ => rfl)))
        clear hNf
        subst hT1
        clear hplain
        go_wp2_with (go_at_call 30; fail)
        obtain ⟨uf, hbf, -⟩ := HNf.out.buf
        refine (buf_All2 hbf).mono ?_
        rintro e w12 ⟨v12, rfl, t12, hs12, -⟩
        have H12 := Lib.hid (And.intro t12 (sl_ints hs12))
        clear hbf t12 hs12
        go_wp2_with (go_at_call 18; fail)
        refine (ref01_Same _ _ bs _ H12.out.2 (HOa.out.2.2.1.old H12.out.1) (by have := HNf.out.ln; omega)).mono ?_
        rintro e w13 ⟨rfl, t13⟩
        have H13 := Lib.hid (H12.out.1.trans t13)
        clear t13
        go_wp2_with (go_at_call 41; fail)
        refine (flag_Up f up (HNf.out.old H13.out).fl).mono ?_
        rintro e w14 ⟨rfl, rfl⟩
        go_wp2_with (go_at_call 42; fail)
        refine (law19_painted (col := 0) (HNf.out.hp.old H13.out) (HOa.out.1.old H13.out) (HOa.out.2.1.old H13.out) (HOa.out.2.2.2.old H13.out) (Nat.le_trans H3.out.2.2.2.2.2.1 (by decide)) (by rw [List.length_map]) HPl.out.1 HPl.out.2).mono ?_
        rintro e w15 ⟨rfl, t15⟩
        have H15 := Lib.hid ((H3.out.1.trans HNf.out.hp.at'.base).trans (H13.out.trans t15))
        clear t15
        go_wp2
        go_ret
        exact ⟨by first | rfl | exact ret_b (by simp), H15.out.below⟩
set_option maxRecDepth 20000 in
set_option maxHeartbeats 4000000 in
theorem nnotes_true_true {w : World} (a0 a1 a2 a3 a4 a5 a6 : Int) (th : Value) (r1 : List (List Value)) (s1 : IsSlice w th [some .u8, some .u8, none] r1) (bf : Value) (r2 : List (List Value)) (s2 : IsSlice w bf [some .u8] r2) (bx : Value) (r3 : List (List Value)) (s3 : IsSlice w bx [some .u8] r3) (rm : Int) (hq0 : (Lit.int .u8 rm).wf = true) (up : Bool) (hU : Hid (up = true)) (v : Int) (hTab : Tab w) (hLim : Limits w) (hS : Sizes w) :
    Calls Tryz.prog 6 #[CsV ⟨a0, a1, a2, a3, a4, a5, a6⟩ th bf bx rm up, .int .i64 v, .bool true] w fun e w' => e = .returned (.bool true) ∧ Below w.heap.size w w' := by
  obtain ⟨N0, hI0, -⟩ := rows_of_slice s1 (by simp)
  obtain ⟨ths, -, hth⟩ := ThIn.of_rows hI0
  obtain ⟨ks, hbf, -, hkb⟩ := k_of_slice s2
  obtain ⟨ls, hbx, -, hlb⟩ := k_of_slice s3
  have hrm := bounds_u8 hq0
  obtain ⟨at1, c1, rfl, -⟩ := id hth
  obtain ⟨af, c2, rfl⟩ := hbf.shape
  obtain ⟨ar, c3, rfl⟩ := hbx.shape
  obtain ⟨N, hN⟩ : ∃ N, ths.length = N := ⟨_, rfl⟩
  obtain ⟨M, hM⟩ : ∃ M, ks.length = M := ⟨_, rfl⟩
  obtain ⟨R, hR⟩ : ∃ R, ls.length = R := ⟨_, rfl⟩
  have HG := Lib.hid (And.intro hth (And.intro hbf (And.intro hbx (And.intro hkb (And.intro hlb hrm)))))
  have HLn := Lib.hid (And.intro hN (And.intro hM hR))
  have HL := Lib.hid (And.intro (Laid.mk hLim hS) hTab)
  rw [hN, hM, hR]
  clear hth hbf hbx hkb hlb hI0 s1 s2 s3 hLim hS hTab hN hM hR hq0 hrm
  go_enter Tryz.func6, Tryz.ntmps6
  go_wp2_with fail
  obtain ⟨W0, hW⟩ : ∃ W, W = w.alloc (Obj.cells (CsR ⟨a0, a1, a2, a3, a4, a5, a6⟩ (.slice at1 N c1) (.slice af M c2) (.slice ar R c3) rm up) 54) := ⟨_, rfl⟩
  have hT : Touch nob w W0 := by rw [hW]; (repeat (first | with_reducible exact Touch.refl _ _ | with_reducible assumption | with_reducible apply Touch.alloc | with_reducible apply Touch.drewN | with_reducible apply Touch.drew | with_reducible refine Touch.setCell ?_ (.inr (by first | omega | (simp; done) | (simp; omega))) _))
  obtain ⟨b0, hb0⟩ : ∃ b, b = w.heap.size := ⟨_, rfl⟩
  rw [← hW, ← hb0]
  have hbx : W0.heap[b0]? = some (Obj.cells (CsR ⟨a0, a1, a2, a3, a4, a5, a6⟩ (.slice at1 N c1) (.slice af M c2) (.slice ar R c3) rm up) 54) := by rw [hW, hb0]; exact World.alloc_heap_new w _
  have HB := Lib.hid (And.intro hT hbx)
  clear hW hb0 hT hbx
  obtain ⟨y0, y1, y2, y3, y4, y5, y6, y7, y8, y9, ya, yb⟩ := box12 HB.out.2
  go_wp2_with (go_at_call 26; fail)
  refine (law19_great ⟨a0, a1, a2, a3, a4, a5, a6⟩ W0 at1 af ar N c1 M c2 R c3 rm up).mono ?_
  rintro e w1 ⟨rfl, t1⟩
  have H1 := Lib.hid (And.intro (HB.out.1.trans t1) (blk_touch HB.out.2 t1 (fun x => x)))
  clear t1 HB y0 y1 y2 y3 y4 y5 y6 y7 y8 y9 ya yb
  cases hgt : (decide (30 < N) || decide (40 < M) || decide (40 < R)) with
  | true =>
    go_wp2_with (go_at_call 27; fail)
    refine (law19_awake w1 (HL.out.1.old H1.out.1)).mono ?_
    rintro e w2 ⟨rfl, t2⟩
    have H2 := Lib.hid ((H1.out.1.trans t2).below)
    clear t2
    go_wp2
    go_ret
    exact ⟨rfl, H2.out⟩
  | false =>
    simp only [Bool.or_eq_false_iff, decide_eq_false_iff_not] at hgt
    have HBd := Lib.hid hgt
    clear hgt
    go_wp2_with (go_at_call 27; fail)
    refine (law19_awake w1 (HL.out.1.old H1.out.1)).mono ?_
    rintro e w2 ⟨rfl, t2⟩
    have H2 := Lib.hid (And.intro (H1.out.1.trans t2) (blk_touch H1.out.2 t2 (fun x => x)))
    obtain ⟨y0, y1, y2, y3, y4, y5, y6, y7, y8, y9, ya, yb⟩ := box12 H2.out.2
    clear t2
    go_wp2_with (go_at_call 28; fail)
    obtain ⟨c, hc⟩ : ∃ c, little ⟨a0, a1, a2, a3, a4, a5, a6⟩ = c := ⟨_, rfl⟩
    have hpt := law19_parts ⟨a0, a1, a2, a3, a4, a5, a6⟩ c hc _ _ _ ths ks ls rm up w2 (HL.out.1.old H2.out.1) (HL.out.2.touch H2.out.1 (fun x => x)) (HG.out.1.old H2.out.1) (HG.out.2.1.old H2.out.1) (HG.out.2.2.1.old H2.out.1) (fun j hj => bounds_u8 (HG.out.2.2.2.1 j hj)) (fun j hj => bounds_u8 (HG.out.2.2.2.2.1 j hj)) (by have h1 := HBd.out; have h2 := HLn.out.2.1; omega) (by have h1 := HBd.out; have h2 := HLn.out.2.2; omega) HG.out.2.2.2.2.2
    rw [HLn.out.1, HLn.out.2.1, HLn.out.2.2] at hpt
    refine hpt.mono ?_
    rintro e w3 ⟨A, p, q, f, rfl, W1, S, H, bs, xs, t3, hP, hbm, hxm, hxl, hol⟩
    obtain ⟨r6, hr6⟩ : ∃ r, rm % 6 = r := ⟨_, rfl⟩
    rw [hr6] at hP
    have HR6 := Lib.hid (And.intro hr6 HG.out.2.2.2.2.2)
    have H3 := Lib.hid (And.intro (H2.out.1.trans t3) (And.intro hP (And.intro hbm (And.intro hxm (And.intro hxl (And.intro hol ((HL.out.2.touch H2.out.1 (fun x => x)).touch t3 (fun x => x))))))))
    have HBX : Hid (∀ wr, Touch nob W1 wr → wr.heap[b0]? = some (Obj.cells (CsR ⟨a0, a1, a2, a3, a4, a5, a6⟩ (.slice at1 N c1) (.slice af M c2) (.slice ar R c3) rm up) 54)) := fun wr ht => blk_touch H2.out.2 (t3.trans ht) (fun x => x)
    clear t3 hP hbm hxm hxl hol hc hpt hr6 y0 y1 y2 y3 y4 y5 y6 y7 y8 y9 ya yb
    go_wp2_with (go_at_call 29; fail)
    refine (note_New_ok A.h p q f w3).mono ?_
    rintro e w4 ⟨n, rfl, hn4, t4, hb4⟩
    have HN4 := Lib.hid (H3.out.2.1.nt t4 hn4 hb4)
    clear hn4 t4 hb4
    go_wp2_with (go_at_call 36; fail)
    refine (law19_colors HN4.out.hp (H3.out.2.2.2.2.2.2.touch HN4.out.hp.at'.base (fun x => x)) (Nat.le_trans H3.out.2.2.2.2.2.1 (by decide))).mono ?_
    rintro e w5 ⟨va, vc, rfl, t5, h5, oa, oc⟩
    have HN5 := Lib.hid (HN4.out.heap t5 h5)
    have HO5 := Lib.hid (And.intro oa (And.intro oc t5.size))
    clear t5 h5 oa oc
    have hr6t : rm.tmod 6 = r6 := by rw [Int.tmod_eq_emod_of_nonneg HR6.out.2.1]; exact HR6.out.1
    have hr60 : 0 ≤ r6 := by have := HR6.out; omega
    have hr61 : r6 < 6 := by have := HR6.out; omega
    have hwr : IntKind.i64.wrap r6 = r6 := IntWalk.i64_in _ (by omega)
    have hwr1 : IntKind.i64.wrap (1 + r6) = 1 + r6 := IntWalk.i64_in _ (by omega)
    have HDr : Hid (Touch nob w5 w5.drew) := Touch.drew (Touch.refl _ _)
    have HC := Lib.hid (fun wr (ht : Touch nob w5 wr) => show wr.cell? ⟨b0, 10, none⟩ = some (.int .u8 rm) from (box12 (HBX.out wr (HN5.out.hp.at'.base.trans ht))).2.2.2.2.2.2.2.2.2.2.1)
    have HBa : Hid (Calls Tryz.prog 30 #[pt p] w5.drew fun e w' => ∃ v', e = .returned v' ∧ Touch nob w5.drew w' ∧ SlAt w' v' bs ∧ SubB w5.drew v' (.slice none 0 0)) := by
      obtain ⟨u5, hb5, -⟩ := (HN5.out.old HDr.out).buf
      exact buf_All2 hb5
    obtain ⟨X, hX⟩ : ∃ X, xs.length = X := ⟨_, rfl⟩
    have HBl : Hid (∀ wr, Touch nob w5 wr → Calls Tryz.prog 37 #[pt q] wr fun e w' => e = .returned (.int .i64 X) ∧ wr = w') := fun wr ht => by
      obtain ⟨y6, hx6, -⟩ := (HN5.out.old ht).box
      rw [← hX]
      exact box_Len hx6
    have HX := Lib.hid hX
    clear hX
    go_wp2_with fail
    go_region_held3 (fun w1 => w1.cell? ⟨b0, 10, none⟩ = some (.int .u8 rm)) (first | exact HC.out _ H6.out.1 | exact HC.out _ HDr.out | exact HC.out _ (Touch.refl _ _)) (first
      | (go_at_call 37; refine (HBl.out _ H6.out.1).mono ?_; rintro e w7 ⟨rfl, rfl⟩)
      | (go_at_call 30; refine HBa.out.mono ?_; rintro e w6 ⟨v6, rfl, t6, hs6, hB6⟩; have H6 := Lib.hid (And.intro (HDr.out.trans t6) (And.intro hs6 hB6)); clear t6 hs6 hB6))
    rename_i hheld
    clear hheld
    have HN6 := Lib.hid (HN5.out.old H6.out.1)
    go_wp2_with (go_at_call 38; fail)
    refine (note_Once .nilFunc (.inl rfl) w6).mono ?_
    rintro e w8 ⟨bO, rfl, hbO, t8, hO⟩
    have HN8 := Lib.hid (And.intro (HN6.out.old t8) (And.intro hO (And.intro hbO t8)))
    clear hbO t8 hO
    go_wp2_with (go_at_call 32; fail)
    refine (does_note (m := 1) (v := v) (col := 1) (I := fun _ => True) (Q := fun w' => NtR nob W1 A c H n p q f (1 + r6) (noteR S v 1 (1 + r6) bs xs up) w' ∧ Touch (NoT A p q f) w8 w') (.inr ⟨_, _, rfl⟩) HN8.out.1 (fun _ _ _ => trivial) (fun w' ht hN' => does_once (blk_touch HN8.out.2.1 ht (nt_keep HN6.out HN8.out.2.2.1)) trivial ⟨hN', ht⟩)).mono ?_
    rintro e w9 ⟨sv, rfl, t9, hD⟩
    have HD := Lib.hid hD
    clear t9 hD
    go_wp2_with (go_at_call 31; fail)
    have hKb : 1 + noteK S v 1 (1 + r6) bs xs ≤ 1000 ∧ ((1 + noteK S v 1 (1 + r6) bs xs : Nat) : Int) ≤ 6 + r6 := by
      have h1 := HN8.out.1.ln
      unfold noteK pourK
      split
      · omega
      · split
        · omega
        · split
          · omega
          · split
            · omega
            · split <;> omega
    refine (note_Run (1 + noteK S v 1 (1 + r6) bs xs) 1000 sv HD.out (by omega)).mono ?_
    rintro e w10 ⟨T, rfl, hT, -, hQ⟩
    obtain rfl : T = 1 + noteK S v 1 (1 + r6) bs xs := by omega
    rw [decide_eq_true rfl]
    obtain ⟨hN10, t10⟩ := hQ rfl
    obtain ⟨T, hT2⟩ : ∃ T, 1 + noteK S v 1 (1 + r6) bs xs = T := ⟨_, rfl⟩
    rw [hT2] at hKb ⊢
    have oa10 : Ow w10 w4.heap.size va S.objs := (HO5.out.1.touch (H6.out.1.trans HN8.out.2.2.2) (fun _ _ x => x)).touch t10 (fun g hg => nt_keep HN4.out (HO5.out.1.new g hg))
    have oc10 : Ow w10 w4.heap.size vc (S.objs.map S.colV) := (HO5.out.2.1.touch (H6.out.1.trans HN8.out.2.2.2) (fun _ _ x => x)).touch t10 (fun g hg => nt_keep HN4.out (HO5.out.2.1.new g hg))
    have os10 : SlAt w10 v6 bs := (H6.out.2.1.old HN8.out.2.2.2).touch t10 (fun g hg => nt_keep HN5.out ((H6.out.2.2 g hg).resolve_left (fun e => by cases e)))
    have H10 := Lib.hid (And.intro hN10 (And.intro oa10 (And.intro oc10 (And.intro os10 (And.intro hT2 hKb.2)))))
    clear hKb hT hQ hN10 t10 oa10 oc10 os10 hT2
    have HC2 := Lib.hid (fun wr (ht : Touch nob w10 wr) => show wr.cell? ⟨b0, 11, none⟩ = some (.bool up) from (box12 (HBX.out wr (H10.out.1.hp.at'.base.trans ht))).2.2.2.2.2.2.2.2.2.2.2)
    have HDr2 : Hid (Touch nob w10 w10.drew) := Touch.drew (Touch.refl _ _)
    go_wp2_with fail
    go_region_held3 (fun w1 => w1.cell? ⟨b0, 11, none⟩ = some (.bool up)) (first | exact HC2.out _ HDr2.out | exact HC2.out _ (Touch.refl _ _)) (fail)
    rename_i hheld
    clear hheld
    obtain ⟨w11, hw11⟩ : ∃ w11, w10.drew = w11 := ⟨_, rfl⟩
    rw [hw11] at HDr2 ⊢
    clear hw11
    have hplain : ∀ S2 : HS, (∀ z, S2.obj z = S.obj z) → (∀ z, S.obj z = true → S2.colV z = S.colV z) → ∀ j, j < S.objs.length → S2.colE (S.objs.getD j 0) = 0 ∧ S2.colV (S.objs.getD j 0) = if S.objs.getD j 0 ∈ ([] : List Int) then 1 else (S.objs.map S.colV).getD j 0 := fun S2 h1 h2 j hj => by
      have hm : S.obj (S.objs.getD j 0) = true := mem_objs.1 (by rw [List.getD_eq_getElem?_getD, List.getElem?_eq_getElem hj]; exact List.getElem_mem _)
      refine ⟨by unfold HS.colE; rw [if_pos ((h1 _).trans hm)], ?_⟩
      rw [if_neg (by simp), h2 _ hm, List.getD_eq_getElem?_getD, List.getD_eq_getElem?_getD, List.getElem?_map, List.getElem?_eq_getElem hj]
      rfl
    by_cases hv0 : v = 0
    · have hR : noteR S v 1 (1 + r6) bs xs up = (S, bs, xs, up) := by unfold noteR; rw [if_pos (.inl hv0)]
      have hT1 : T = 1 := by
        have h1 := H10.out.2.2.2.2.1
        unfold noteK at h1
        rw [if_pos hv0] at h1
        omega
      have hNf := H10.out.1.old HDr2.out
      rw [hR] at hNf
      clear hR
      have HNf := Lib.hid (show NtI nob W1 A c H n p q f (1 + r6) S bs xs up w11 from hNf)
      have HOa := Lib.hid (And.intro (H10.out.2.1.touch HDr2.out (fun _ _ x => x)).ints (And.intro (H10.out.2.2.1.touch HDr2.out (fun _ _ x => x)).ints (And.intro (sl_ints (H10.out.2.2.2.1.old HDr2.out)) (show IntsIn w11 (.slice none 0 0) [] from ⟨none, 0, rfl, .inl rfl⟩))))
      have HPl := Lib.hid (And.intro (show ([] : List Int).length ≤ 4096 by decide) (hplain S (fun _ => rfl) (fun _ _ => rfl)))
      clear hNf
      subst hT1 hv0
      clear hplain
      go_wp2_with (go_at_call 30; fail)
      obtain ⟨uf, hbf, -⟩ := HNf.out.buf
      refine (buf_All2 hbf).mono ?_
      rintro e w12 ⟨v12, rfl, t12, hs12, -⟩
      have H12 := Lib.hid (And.intro t12 (sl_ints hs12))
      clear hbf t12 hs12
      go_wp2_with (go_at_call 18; fail)
      refine (ref01_Same _ _ bs _ H12.out.2 (HOa.out.2.2.1.old H12.out.1) (by have := HNf.out.ln; omega)).mono ?_
      rintro e w13 ⟨rfl, t13⟩
      have H13 := Lib.hid (H12.out.1.trans t13)
      clear t13
      go_wp2_with (go_at_call 41; fail)
      refine (flag_Up f up (HNf.out.old H13.out).fl).mono ?_
      rintro e w14 ⟨rfl, rfl⟩
      go_wp2_with (go_at_call 42; fail)
      refine (law19_painted (col := 1) (HNf.out.hp.old H13.out) (HOa.out.1.old H13.out) (HOa.out.2.1.old H13.out) (HOa.out.2.2.2.old H13.out) (Nat.le_trans H3.out.2.2.2.2.2.1 (by decide)) (by rw [List.length_map]) HPl.out.1 HPl.out.2).mono ?_
      rintro e w15 ⟨rfl, t15⟩
      have H15 := Lib.hid ((H3.out.1.trans HNf.out.hp.at'.base).trans (H13.out.trans t15))
      clear t15
      go_wp2
      go_ret
      exact ⟨by first | rfl | exact ret_b (by simp), H15.out.below⟩
    · have hv1 : (v == 0) = false := by simpa using hv0
      go_wp2_with (go_at_call 16; fail)
      refine (ref01_In va S.objs v (H10.out.2.1.touch HDr2.out (fun _ _ x => x)).ints (Nat.le_trans H3.out.2.2.2.2.2.1 (by decide))).mono ?_
      rintro e wx ⟨rfl, tx⟩
      have HDr3 := Lib.hid (HDr2.out.trans tx)
      clear tx
      by_cases hvo : v ∈ S.objs
      · rw [decide_eq_true hvo]
        have hvS : S.obj v = true := mem_objs.1 hvo
        have hce : S.colE v = 0 := by unfold HS.colE; rw [if_pos hvS]
        go_wp2_with (go_at_call 39; fail)
        refine (law19_place va S.objs v (H10.out.2.1.touch HDr3.out (fun _ _ x => x)).ints (Nat.le_trans H3.out.2.2.2.2.2.1 (by decide)) hvo).mono ?_
        rintro e wy ⟨i, rfl, rfl, hi5, hi6⟩
        obtain ⟨g2, o2, p2, e2, hcap2, hcell2⟩ := (H10.out.2.2.1.touch HDr3.out (fun _ _ x => x)).ints.at (k := i) (by rw [List.length_map]; exact hi5)
        have hVi : (S.objs.map S.colV).getD i 0 = S.colV v := by
          rw [← hi6, List.getD_eq_getElem?_getD, List.getD_eq_getElem?_getD, List.getElem?_map, List.getElem?_eq_getElem hi5]
          rfl
        rw [hVi] at hcell2
        rw [List.length_map] at e2 hcap2
        obtain ⟨N, hN⟩ : ∃ N, S.objs.length = N := ⟨_, rfl⟩
        rw [hN] at hi5 e2 hcap2
        subst e2
        have hib : (i : Int) < (N : Int) := by omega
        clear hVi hi6 hN
        by_cases hcv : S.colV v = 1
        · rw [hcv] at hcell2
          have hR : noteR S v 1 (1 + r6) bs xs up = (S, bs, xs, up) := by unfold noteR; rw [if_pos (.inr (.inr hcv))]
          have hT1 : T = 2 := by
            have h1 := H10.out.2.2.2.2.1
            unfold noteK at h1
            rw [if_neg hv0, if_pos (.inr (.inl hcv))] at h1
            omega
          have hNf := H10.out.1.old HDr3.out
          rw [hR] at hNf
          clear hR hce hcv
          have HNf := Lib.hid (show NtI nob W1 A c H n p q f (1 + r6) S bs xs up wx from hNf)
          have HOa := Lib.hid (And.intro (H10.out.2.1.touch HDr3.out (fun _ _ x => x)).ints (And.intro (H10.out.2.2.1.touch HDr3.out (fun _ _ x => x)).ints (And.intro (sl_ints (H10.out.2.2.2.1.old HDr3.out)) (show IntsIn wx (.slice none 0 0) [] from ⟨none, 0, rfl, .inl rfl⟩))))
          clear hNf
          have HPl := Lib.hid (And.intro (show ([] : List Int).length ≤ 4096 by decide) (hplain S (fun _ => rfl) (fun _ _ => rfl)))
          subst hT1
          clear hplain
          go_wp2_with (go_at_call 30; fail)
          obtain ⟨uf, hbf, -⟩ := HNf.out.buf
          refine (buf_All2 hbf).mono ?_
          rintro e w12 ⟨v12, rfl, t12, hs12, -⟩
          have H12 := Lib.hid (And.intro t12 (sl_ints hs12))
          clear hbf t12 hs12
          go_wp2_with (go_at_call 18; fail)
          refine (ref01_Same _ _ bs _ H12.out.2 (HOa.out.2.2.1.old H12.out.1) (by have := HNf.out.ln; omega)).mono ?_
          rintro e w13 ⟨rfl, t13⟩
          have H13 := Lib.hid (H12.out.1.trans t13)
          clear t13
          go_wp2_with (go_at_call 41; fail)
          refine (flag_Up f up (HNf.out.old H13.out).fl).mono ?_
          rintro e w14 ⟨rfl, rfl⟩
          go_wp2_with (go_at_call 42; fail)
          refine (law19_painted (col := 1) (HNf.out.hp.old H13.out) (HOa.out.1.old H13.out) (HOa.out.2.1.old H13.out) (HOa.out.2.2.2.old H13.out) (Nat.le_trans H3.out.2.2.2.2.2.1 (by decide)) (by rw [List.length_map]) HPl.out.1 HPl.out.2).mono ?_
          rintro e w15 ⟨rfl, t15⟩
          have H15 := Lib.hid ((H3.out.1.trans HNf.out.hp.at'.base).trans (H13.out.trans t15))
          clear t15
          go_wp2
          go_ret
          exact ⟨by first | rfl | exact ret_b (by simp), H15.out.below⟩
        · obtain ⟨d, hd⟩ : ∃ d, S.colV v = d := ⟨_, rfl⟩
          rw [hd] at hcell2
          have hdc : (d == 1) = false := by rw [← hd]; simpa using hcv
          have hc0 : ¬ (v = 0 ∨ S.colE v ≠ 0 ∨ S.colV v = 1) := fun h => h.elim hv0 (fun h => h.elim (fun h => h hce) hcv)
          have HCv := Lib.hid (And.intro hcv (And.intro hce hc0))
          clear hcv hd hce hc0
          obtain ⟨L, hL⟩ : ∃ L, bs.length = L := ⟨_, rfl⟩
          have HL := Lib.hid hL
          obtain ⟨a6, c6, e6⟩ := (sl_ints H10.out.2.2.2.1).shape
          rw [hL] at e6
          subst e6
          clear hL
          by_cases hlr : (L : Int) < 1 + r6
          · have hlr' : (bs.length : Int) < 1 + r6 := by rw [HL.out]; exact hlr
            have hR : noteR S v 1 (1 + r6) bs xs up = (S, bs ++ [v], xs, up) := by unfold noteR; rw [if_neg HCv.out.2.2, if_pos hlr']
            have hT1 : T = 2 := by
              have h1 := H10.out.2.2.2.2.1
              unfold noteK at h1
              rw [if_neg hv0, if_pos (.inr (.inr hlr'))] at h1
              omega
            have HR := Lib.hid hR
            have HO0 : Hid (Ow (wx.alloc (Obj.cells #[] 3)) wx.heap.size (.slice (some ⟨wx.heap.size, 0, none⟩) 0 0) []) := World.ownsRow_made (size := 1) wx #[] 0 (Nat.le_refl _) (by unfold maxLen; omega) rfl
            have HX0 := Lib.hid (sx_of_sl (H10.out.2.2.2.1.old (HDr3.out.trans (Touch.alloc (Touch.refl nob wx) (Obj.cells #[] 3)))))
            have hl40 : bs.length ≤ 40 := by have := HR6.out; omega
            clear hR hlr'
            subst hT1
            go_wp2_with (at_builtin; first
              | (refine wpList_append_sx rfl _ _ rfl wx.heap.size _ _ [] bs rfl HO0.out rfl HX0.out (by rw [List.length_nil]; omega) (by simp) ?_; intro v7 w7 hown hgrow hat; have H7 := Lib.hid (And.intro hown (And.intro hgrow (Touch.grown ((Touch.refl nob wx).alloc (Obj.cells #[] 3)) hgrow (fun _ h => by cases h; exact .inr (Nat.le_refl _))))); clear hown hgrow hat)
              | (refine wpList_append_sx rfl _ _ rfl wx.heap.size _ _ bs [v] rfl (H7.out.1.touch (Touch.alloc (Touch.refl nob _) _) (fun _ _ x => x)) rfl (sx_one _ _) (by simp; omega) (by have := H7.out.2.2.size; rw [World.size_alloc]; omega) ?_; intro v8 w8 hown hgrow hat; have H8 := Lib.hid (And.intro hown hgrow); clear hown hgrow hat)
              | fail)
            have HT8 : Hid (Touch nob wx w8) := Touch.grown (H7.out.2.2.alloc _) H8.out.2 (fun g hg => .inr (H7.out.1.new g hg))
            have hNf := H10.out.1.old (HDr3.out.trans HT8.out)
            rw [HR.out] at hNf
            have HNf := Lib.hid (show NtI nob W1 A c H n p q f (1 + r6) S (bs ++ [v]) xs up w8 from hNf)
            have HOa := Lib.hid (And.intro (H10.out.2.1.touch (HDr3.out.trans HT8.out) (fun _ _ x => x)).ints (And.intro (H10.out.2.2.1.touch (HDr3.out.trans HT8.out) (fun _ _ x => x)).ints (And.intro H8.out.1.ints (show IntsIn w8 (.slice none 0 0) [] from ⟨none, 0, rfl, .inl rfl⟩))))
            clear hNf
            have HPl := Lib.hid (And.intro (show ([] : List Int).length ≤ 4096 by decide) (hplain S (fun _ => rfl) (fun _ _ => rfl)))
            clear hplain
            go_wp2_with (go_at_call 30; fail)
            obtain ⟨uf, hbf, -⟩ := HNf.out.buf
            refine (buf_All2 hbf).mono ?_
            rintro e w12 ⟨v12, rfl, t12, hs12, -⟩
            have H12 := Lib.hid (And.intro t12 (sl_ints hs12))
            clear hbf t12 hs12
            go_wp2_with (go_at_call 18; fail)
            refine (ref01_Same _ _ (bs ++ [v]) _ H12.out.2 (HOa.out.2.2.1.old H12.out.1) (by have := HNf.out.ln; omega)).mono ?_
            rintro e w13 ⟨rfl, t13⟩
            have H13 := Lib.hid (H12.out.1.trans t13)
            clear t13
            go_wp2_with (go_at_call 41; fail)
            refine (flag_Up f up (HNf.out.old H13.out).fl).mono ?_
            rintro e w14 ⟨rfl, rfl⟩
            go_wp2_with (go_at_call 42; fail)
            refine (law19_painted (col := 1) (HNf.out.hp.old H13.out) (HOa.out.1.old H13.out) (HOa.out.2.1.old H13.out) (HOa.out.2.2.2.old H13.out) (Nat.le_trans H3.out.2.2.2.2.2.1 (by decide)) (by rw [List.length_map]) HPl.out.1 HPl.out.2).mono ?_
            rintro e w15 ⟨rfl, t15⟩
            have H15 := Lib.hid ((H3.out.1.trans HNf.out.hp.at'.base).trans (H13.out.trans t15))
            clear t15
            go_wp2
            go_ret
            exact ⟨by first | rfl | exact ret_b (by simp), H15.out.below⟩
          · have hlr' : ¬ (bs.length : Int) < 1 + r6 := by rw [HL.out]; exact hlr
            have hR : noteR S v 1 (1 + r6) bs xs up = ((pourR S 1 bs xs up).1, [v], (pourR S 1 bs xs up).2.2) := by unfold noteR; rw [if_neg HCv.out.2.2, if_neg hlr']
            have hT1 : T = 3 + pourK S 1 bs xs := by
              have h1 := H10.out.2.2.2.2.1
              unfold noteK at h1
              rw [if_neg hv0, if_neg (fun h => h.elim (fun h => h HCv.out.2.1) (fun h => h.elim HCv.out.1 hlr'))] at h1
              omega
            have HR := Lib.hid hR
            have HT1 := Lib.hid hT1
            clear hR hT1 hlr'
            go_wp2_with (go_at_call 40; fail)
            have hmb : ∀ z, z ∈ bs → S.obj z = true := fun z hz => mem_objs.1 (H3.out.2.2.1 z hz)
            refine (law19_poured (col := 1) S.colV (H10.out.2.1.touch HDr3.out (fun _ _ x => x)).ints (H10.out.2.2.1.touch HDr3.out (fun _ _ x => x)).ints (sl_ints (H10.out.2.2.2.1.old HDr3.out)) (Nat.le_trans H3.out.2.2.2.2.2.1 (by decide)) (by rw [List.length_map]) (by have := HN8.out.1.ln; omega) H3.out.2.2.1 (fun j hj => by rw [List.getD_eq_getElem?_getD, List.getD_eq_getElem?_getD, List.getElem?_map, List.getElem?_eq_getElem hj]; rfl) X (by have h1 := HX.out; have h2 := H3.out.2.2.2.2.1; omega)).mono ?_
            rintro e w11 ⟨vf, F, k', rfl, t11, oF, hFl, hPw⟩
            rw [← HX.out] at hPw
            have hpl := pour_plain (up := up) (by decide) hmb hPw
            obtain ⟨af2, cf2, rfl⟩ := oF.ints.shape
            obtain ⟨l, hl⟩ : ∃ l, F.length = l := ⟨_, rfl⟩
            rw [hl] at oF ⊢
            obtain ⟨S2, hS2⟩ : ∃ S2, (pourR S 1 bs xs up).1 = S2 := ⟨_, rfl⟩
            obtain ⟨xs2, hxs2⟩ : ∃ xs2, (pourR S 1 bs xs up).2.2.1 = xs2 := ⟨_, rfl⟩
            obtain ⟨up2, hup2⟩ : ∃ up2, (pourR S 1 bs xs up).2.2.2 = up2 := ⟨_, rfl⟩
            have HT11 := Lib.hid (HDr3.out.trans t11)
            have hN11 := H10.out.1.old HT11.out
            rw [HR.out] at hN11
            have hNf : NtI nob W1 A c H n p q f (1 + r6) (pourR S 1 bs xs up).1 [v] (pourR S 1 bs xs up).2.2.1 (pourR S 1 bs xs up).2.2.2 w11 := hN11
            rw [hS2, hxs2, hup2] at hNf
            rw [hS2, hxs2, hup2] at hpl
            have hTk : T = 3 + k' := by have h1 := HT1.out; have h2 := hpl.1; omega
            have hT3 : ((T : Nat) : Int) = 3 + (k' : Int) := by omega
            rw [hT3]
            have hk1 : 3 + (k' : Int) ≤ 6 + r6 := by have := H10.out.2.2.2.2.2; omega
            have hwk : IntKind.i64.wrap (3 + (k' : Int)) = 3 + (k' : Int) := IntWalk.i64_in _ (by omega)
            have hup3 : up2 = (up || decide (l ≠ 0)) := by
              rw [hpl.2.1]
              congr 1
              rw [decide_eq_decide, ← hl]
              exact not_congr List.length_eq_zero_iff.symm
            have hFl2 : F.length ≤ 4096 := by have h2 := HN8.out.1.ln; omega
            rw [hl] at hFl2
            have HPl := Lib.hid (And.intro (show F.length ≤ 4096 by rw [hl]; exact hFl2) (show ∀ j, j < S.objs.length → S2.colE (S.objs.getD j 0) = 0 ∧ S2.colV (S.objs.getD j 0) = if S.objs.getD j 0 ∈ F then 1 else (S.objs.map S.colV).getD j 0 from fun j hj => by
              have hm : S.obj (S.objs.getD j 0) = true := mem_objs.1 (by rw [List.getD_eq_getElem?_getD, List.getElem?_eq_getElem hj]; exact List.getElem_mem _)
              refine ⟨?_, ?_⟩
              · unfold HS.colE
                rw [if_pos (by rw [hpl.2.2.2.1]; exact hm)]
              · rw [hpl.2.2.2.2 _ hm]
                congr 1
                rw [List.getD_eq_getElem?_getD, List.getD_eq_getElem?_getD, List.getElem?_map, List.getElem?_eq_getElem hj]
                rfl))
            have H11 := Lib.hid (And.intro t11 (And.intro oF hl))
            clear hPw hpl t11 oF hl hFl hN11 hS2 hxs2 hup2 hmb hTk hT3 hplain
            have hU2 := hU.out
            subst hU2
            by_cases hl0 : l = 0
            all_goals
              first
              | (have hlb : ¬ (0 : Int) < (l : Int) := by omega)
              | (have hlb : (0 : Int) < (l : Int) := (by omega); have hlbn : 0 < l := (by omega))
              first
              | rw [decide_eq_true (show l ≠ 0 from hl0)] at hup3
              | rw [decide_eq_false (show ¬ l ≠ 0 from fun h => h hl0)] at hup3
              first | rw [Bool.false_or] at hup3 | rw [Bool.true_or] at hup3
              subst hup3
              have HTz : Hid (Touch nob w11 (w11.alloc (Obj.cells #[.int .i64 v] 3))) := (Touch.refl nob w11).alloc _
              have hz := World.alloc_heap_new w11 (Obj.cells #[.int .i64 v] 3)
              obtain ⟨w12, hw12⟩ : ∃ w12, w11.alloc (Obj.cells #[.int .i64 v] 3) = w12 := ⟨_, rfl⟩
              rw [hw12] at HTz hz
              have HTy := Lib.hid (HT11.out.trans HTz.out)
              have HW12 := Lib.hid hw12
              have hz2 := (H11.out.2.1.touch HTz.out (fun _ _ x => x)).ints
              have hNg := hNf.old HTz.out
              clear hNf hw12
              have hNf := hNg
              clear hNg
              have HNf := Lib.hid (show NtI nob W1 A c H n p q f (1 + r6) S2 [v] xs2 _ w12 from hNf)
              have HOa := Lib.hid (And.intro (H10.out.2.1.touch HTy.out (fun _ _ x => x)).ints (And.intro (H10.out.2.2.1.touch HTy.out (fun _ _ x => x)).ints (And.intro (ints_made hz) hz2)))
              clear hNf
              clear hz hz2
              try subst hl0
              go_wp2_with (go_at_call 30; fail)
              rw [HW12.out]
              obtain ⟨uf, hbf, -⟩ := HNf.out.buf
              refine (buf_All2 hbf).mono ?_
              rintro e w13 ⟨v12, rfl, t12, hs12, -⟩
              have H12 := Lib.hid (And.intro t12 (sl_ints hs12))
              clear hbf t12 hs12
              go_wp2_with (go_at_call 18; fail)
              refine (ref01_Same _ _ [v] _ H12.out.2 (HOa.out.2.2.1.old H12.out.1) (by have := HNf.out.ln; omega)).mono ?_
              rintro e w14 ⟨rfl, t13⟩
              have H13 := Lib.hid (H12.out.1.trans t13)
              clear t13
              go_wp2_with (go_at_call 41; fail)
              refine (flag_Up f _ (HNf.out.old H13.out).fl).mono ?_
              rintro e w15 ⟨rfl, rfl⟩
              go_wp2_with (go_at_call 42; fail)
              have g1 := HNf.out.hp.old H13.out
              have g2 := HOa.out.1.old H13.out
              have g3 := HOa.out.2.1.old H13.out
              have g4 := HOa.out.2.2.2.old H13.out
              have g5 : S.objs.length ≤ 4096 := Nat.le_trans H3.out.2.2.2.2.2.1 (by decide)
              have HPq := Lib.hid (law19_painted (col := 1) g1 g2 g3 g4 g5 (by rw [List.length_map]) HPl.out.1 HPl.out.2)
              clear g1 g2 g3 g4 g5
              refine HPq.out.mono ?_
              rintro e w16 ⟨rfl, t15⟩
              have H15 := Lib.hid ((H3.out.1.trans HNf.out.hp.at'.base).trans (H13.out.trans t15))
              clear t15
              go_wp2
              go_ret
              exact ⟨by first | rfl | exact ret_b (by simp), H15.out.below⟩
      · rw [decide_eq_false hvo]
        have hce : S.colE v ≠ 0 := by
          unfold HS.colE
          rw [if_neg (fun h => hvo (mem_objs.2 h))]
          decide
        have hR : noteR S v 1 (1 + r6) bs xs up = (S, bs, xs, up) := by unfold noteR; rw [if_pos (.inr (.inl hce))]
        have hT1 : T = 2 := by
          have h1 := H10.out.2.2.2.2.1
          unfold noteK at h1
          rw [if_neg hv0, if_pos (.inl hce)] at h1
          omega
        have hNf := H10.out.1.old HDr3.out
        rw [hR] at hNf
        clear hR hce
        have HNf := Lib.hid (show NtI nob W1 A c H n p q f (1 + r6) S bs xs up wx from hNf)
        have HOa := Lib.hid (And.intro (H10.out.2.1.touch HDr3.out (fun _ _ x => x)).ints (And.intro (H10.out.2.2.1.touch HDr3.out (fun _ _ x => x)).ints (And.intro (sl_ints (H10.out.2.2.2.1.old HDr3.out)) (show IntsIn wx (.slice none 0 0) [] from ⟨none, 0, rfl, .inl rfl⟩))))
        have HPl := Lib.hid (And.intro (show ([] : List Int).length ≤ 4096 by decide) (hplain S (fun _ => rfl) (fun _ _ => rfl)))
        clear hNf
        subst hT1
        clear hplain
        go_wp2_with (go_at_call 30; fail)
        obtain ⟨uf, hbf, -⟩ := HNf.out.buf
        refine (buf_All2 hbf).mono ?_
        rintro e w12 ⟨v12, rfl, t12, hs12, -⟩
        have H12 := Lib.hid (And.intro t12 (sl_ints hs12))
        clear hbf t12 hs12
        go_wp2_with (go_at_call 18; fail)
        refine (ref01_Same _ _ bs _ H12.out.2 (HOa.out.2.2.1.old H12.out.1) (by have := HNf.out.ln; omega)).mono ?_
        rintro e w13 ⟨rfl, t13⟩
        have H13 := Lib.hid (H12.out.1.trans t13)
        clear t13
        go_wp2_with (go_at_call 41; fail)
        refine (flag_Up f up (HNf.out.old H13.out).fl).mono ?_
        rintro e w14 ⟨rfl, rfl⟩
        go_wp2_with (go_at_call 42; fail)
        refine (law19_painted (col := 1) (HNf.out.hp.old H13.out) (HOa.out.1.old H13.out) (HOa.out.2.1.old H13.out) (HOa.out.2.2.2.old H13.out) (Nat.le_trans H3.out.2.2.2.2.2.1 (by decide)) (by rw [List.length_map]) HPl.out.1 HPl.out.2).mono ?_
        rintro e w15 ⟨rfl, t15⟩
        have H15 := Lib.hid ((H3.out.1.trans HNf.out.hp.at'.base).trans (H13.out.trans t15))
        clear t15
        go_wp2
        go_ret
        exact ⟨by first | rfl | exact ret_b (by simp), H15.out.below⟩
theorem law_NoteNotes {w : World} (a0 : Int) (_ : (Lit.int .i64 a0).wf = true) (a1 : Int) (_ : (Lit.int .i64 a1).wf = true) (a2 : Int) (_ : (Lit.int .i64 a2).wf = true) (a3 : Int) (_ : (Lit.int .i64 a3).wf = true) (a4 : Int) (_ : (Lit.int .i64 a4).wf = true) (a5 : Int) (_ : (Lit.int .i64 a5).wf = true) (a6 : Int) (_ : (Lit.int .i64 a6).wf = true) (th : Value) (r1 : List (List Value)) (s1 : IsSlice w th [some .u8, some .u8, none] r1) (bf : Value) (r2 : List (List Value)) (s2 : IsSlice w bf [some .u8] r2) (bx : Value) (r3 : List (List Value)) (s3 : IsSlice w bx [some .u8] r3) (rm : Int) (hq0 : (Lit.int .u8 rm).wf = true) (up : Bool) (v : Int) (_ : (Lit.int .i64 v).wf = true) (white : Bool) (hTab : Tab w) (hLim : Limits w) (hS : Sizes w) :
    Calls Tryz.prog 6 #[CsV ⟨a0, a1, a2, a3, a4, a5, a6⟩ th bf bx rm up, .int .i64 v, .bool white] w fun e w' => e = .returned (.bool true) ∧ Below w.heap.size w w' := by
  cases white
  · cases up
    · exact nnotes_false_false a0 a1 a2 a3 a4 a5 a6 th r1 s1 bf r2 s2 bx r3 s3 rm hq0 false rfl v hTab hLim hS
    · exact nnotes_false_true a0 a1 a2 a3 a4 a5 a6 th r1 s1 bf r2 s2 bx r3 s3 rm hq0 true rfl v hTab hLim hS
  · cases up
    · exact nnotes_true_false a0 a1 a2 a3 a4 a5 a6 th r1 s1 bf r2 s2 bx r3 s3 rm hq0 false rfl v hTab hLim hS
    · exact nnotes_true_true a0 a1 a2 a3 a4 a5 a6 th r1 s1 bf r2 s2 bx r3 s3 rm hq0 true rfl v hTab hLim hS
end Go.Proofs.YtnobempbcdkoaaaGreatDoor
