/- TraceMarks, walked. Conditions: the tables of limits, of sizes and of de Bruijn's bits read as laid. -/
import Derived.Test.YtnobempbcdkoaaaGreatDoorLaws16c
import Derived.Test.YtnobempbcdkoaaaGreatDoorRfR
namespace Go.Proofs.YtnobempbcdkoaaaGreatDoor
open Go.RowKit
attribute [local go_sem] Oper.semAt_some

variable {w : World}
theorem h33_lt {W : World} {A : HA} {c : Cf} {S : HS} {H : Nat → List Nat} (h : HpI W w A c S H) : ∀ b ∈ A.all, b < w.heap.size := h.at'.lt
/-- Marking that is refused. -/
theorem tr_Mark_no (p : Nat) (col room E : Int) (hE : ((col ≠ 0 ∧ col ≠ 1) ∧ E = 1) ∨ (((col = 0 ∨ col = 1) ∧ (room < 1 ∨ 4096 < room)) ∧ E = 4)) (roots : Value) (w : World) :
    Calls Tryz.prog 46 #[.pointer (some ⟨p, 0, none⟩), .int .i64 col, .int .i64 room, roots] w fun e w' => e = .returned (.tuple #[.int .i64 0, .int .i64 0, .int .i64 E]) ∧ Touch nob w w' := by
  obtain ⟨W0, hW0⟩ : ∃ W0, W0 = (w.alloc (Obj.cells #[.pointer (some ⟨p, 0, none⟩)] 31)).alloc (Obj.cells #[.int .i64 col] 3) := ⟨_, rfl⟩
  have t0 : Touch nob w W0 := by rw [hW0]; (repeat (first | with_reducible exact Touch.refl _ _ | with_reducible assumption | with_reducible apply Touch.alloc | with_reducible apply Touch.drewN | with_reducible apply Touch.drew | with_reducible refine Touch.setCell ?_ (.inr (by first | omega | (simp; done) | (simp; omega))) _))
  have b0 : W0.heap[w.heap.size]? = some (Obj.cells #[.pointer (some ⟨p, 0, none⟩)] 31) := by rw [hW0]; exact alloc2_0 w _ _
  have b1 : W0.heap[w.heap.size + 1]? = some (Obj.cells #[.int .i64 col] 3) := by rw [hW0]; exact alloc2_1 w _ _
  have H0 := Lib.hid (And.intro t0 (And.intro b0 b1))
  clear t0 b0 b1
  rcases hE with ⟨⟨h0, h1⟩, rfl⟩ | ⟨⟨hc, hr⟩, rfl⟩
  · have hs : ∀ W : World, Calls Tryz.prog 74 #[.int .i64 room] W fun e w' => ∃ v E, e = .returned (.tuple #[.pointer v, .int .i64 E]) ∧ Touch nob W w' := fun W => by
      by_cases h : room < 1 ∨ 4096 < room
      · exact (stack_New_no room h W).mono fun e w' ⟨h1, h2⟩ => ⟨_, _, h1, h2 ▸ Touch.refl _ _⟩
      · exact (stack_New_ok room (by omega) (by omega) W).mono fun e w' ⟨h1, h2, _⟩ => ⟨_, _, h1, h2⟩
    have HS := Lib.hid hs
    have g1 : (col != 0) = true := by simpa using h0
    have g2 : (col != 1) = true := by simpa using h1
    clear hs h0 h1
    go_enter Tryz.func46, Tryz.ntmps46
    go_wp2_with (go_at_call 74; fail)
    rw [← hW0]
    clear hW0
    refine (HS.out W0).mono ?_
    rintro e w1 ⟨v, E, rfl, t1⟩
    obtain ⟨x0, y0⟩ := box1 (blk_touch H0.out.2.1 t1 (fun x => x))
    obtain ⟨x1, y1⟩ := box1 (blk_touch H0.out.2.2 t1 (fun x => x))
    have H1 := Lib.hid (H0.out.1.trans t1)
    clear t1
    go_wp2
    refine bodyPost_ret (v := .tuple #[.int .i64 0, .int .i64 0, .int .i64 1]) (by simp [results, Tryz.results46, go_sem]) rfl ⟨rfl, H1.out⟩
  · have hg : ((col != 0) = false) ∨ ((col != 0) = true ∧ (col != 1) = false) := by rcases hc with rfl | rfl <;> decide
    have HR := Lib.hid hr
    clear hc hr
    rcases hg with g1 | ⟨g1, g2⟩
    all_goals
      go_enter Tryz.func46, Tryz.ntmps46
      go_wp2_with (go_at_call 74; fail)
      rw [← hW0]
      clear hW0
      refine (stack_New_no room HR.out W0).mono ?_
      rintro e w1 ⟨rfl, rfl⟩
      obtain ⟨x0, y0⟩ := box1 H0.out.2.1
      obtain ⟨x1, y1⟩ := box1 H0.out.2.2
      go_wp2
      refine bodyPost_ret (v := .tuple #[.int .i64 0, .int .i64 0, .int .i64 4]) (by simp [results, Tryz.results46, go_sem]) rfl ⟨rfl, H0.out.1⟩
set_option maxRecDepth 20000 in
set_option maxHeartbeats 4000000 in
theorem law_TraceMarks {w : World} (a0 : Int) (_ : (Lit.int .i64 a0).wf = true) (a1 : Int) (_ : (Lit.int .i64 a1).wf = true) (a2 : Int) (_ : (Lit.int .i64 a2).wf = true) (a3 : Int) (_ : (Lit.int .i64 a3).wf = true) (a4 : Int) (_ : (Lit.int .i64 a4).wf = true) (a5 : Int) (_ : (Lit.int .i64 a5).wf = true) (a6 : Int) (_ : (Lit.int .i64 a6).wf = true)
    (th : Value) (r1 : List (List Value)) (s1 : IsSlice w th [some .u8, some .u8, none] r1) (fv : Value) (r2 : List (List Value)) (s2 : IsSlice w fv [some .u16] r2) (rv : Value) (r3 : List (List Value)) (s3 : IsSlice w rv [some .i64] r3) (q0 : Int) (_ : (Lit.int .i64 q0).wf = true) (q1 : Int) (_ : (Lit.int .i64 q1).wf = true) (hTab : Tab w) (hLim : Limits w) (hS : Sizes w) :
    Calls Tryz.prog 9 #[GrV ⟨a0, a1, a2, a3, a4, a5, a6⟩ th fv, rv, .agg #[.int .i64 q0, .int .i64 q1]] w fun e w' => e = .returned (.bool true) ∧ Below w.heap.size w w' := by
  obtain ⟨ths, fs, hG⟩ := GIn.of s1 s2
  obtain ⟨rt, i3, y3, -⟩ := sy_of_slice s3
  obtain ⟨at1, c1, rfl, -⟩ := id hG.th
  obtain ⟨af, c2, rfl⟩ := hG.fv.shape
  obtain ⟨ar, c3, rfl⟩ := i3.shape
  obtain ⟨N, hN⟩ : ∃ N, ths.length = N := ⟨_, rfl⟩
  obtain ⟨M, hM⟩ : ∃ M, fs.length = M := ⟨_, rfl⟩
  obtain ⟨R, hR⟩ : ∃ R, rt.length = R := ⟨_, rfl⟩
  have HG := Lib.hid (And.intro hG (And.intro i3 y3))
  have HLn := Lib.hid (And.intro hN (And.intro hM hR))
  have HL := Lib.hid (And.intro (Laid.mk hLim hS) hTab)
  rw [hN, hM, hR]
  clear hG i3 y3 s1 s2 s3 hLim hS hTab hN hM hR
  go_enter Tryz.func9, Tryz.ntmps9
  go_wp2_with fail
  obtain ⟨W0, hW⟩ : ∃ W, W = (w.alloc (Obj.cells #[.int .i64 a0, .int .i64 a1, .int .i64 a2, .int .i64 a3, .int .i64 a4, .int .i64 a5, .int .i64 a6, .slice at1 N c1, .slice af M c2] 27)).alloc (Obj.cells #[.int .i64 q0, .int .i64 q1] 38) := ⟨_, rfl⟩
  have hT : Touch nob w W0 := by rw [hW]; (repeat (first | with_reducible exact Touch.refl _ _ | with_reducible assumption | with_reducible apply Touch.alloc | with_reducible apply Touch.drewN | with_reducible apply Touch.drew | with_reducible refine Touch.setCell ?_ (.inr (by first | omega | (simp; done) | (simp; omega))) _))
  obtain ⟨b0, hb0⟩ : ∃ b, b = w.heap.size := ⟨_, rfl⟩
  rw [← hW, ← hb0]
  have hbx : W0.heap[b0]? = some (Obj.cells #[.int .i64 a0, .int .i64 a1, .int .i64 a2, .int .i64 a3, .int .i64 a4, .int .i64 a5, .int .i64 a6, .slice at1 N c1, .slice af M c2] 27) := by rw [hW, hb0]; exact alloc2_0 w _ _
  have hby : W0.heap[b0 + 1]? = some (Obj.cells #[.int .i64 q0, .int .i64 q1] 38) := by rw [hW, hb0]; exact alloc2_1 w _ _
  have HB := Lib.hid (And.intro hT (And.intro hbx hby))
  have HBW : Hid (b0 + 1 < W0.heap.size ∧ w.heap.size ≤ b0) := ⟨blk_lt hby, Nat.le_of_eq hb0.symm⟩
  clear hW hb0 hT hbx hby
  go_wp2_with (go_at_call 12; fail)
  refine (law16_great ⟨a0, a1, a2, a3, a4, a5, a6⟩ W0 at1 af ar N c1 M c2 R c3).mono ?_
  rintro e w1 ⟨rfl, t1⟩
  have H1 := Lib.hid (HB.out.1.trans t1)
  have HB1 := Lib.hid (And.intro (blk_touch HB.out.2.1 t1 (fun x => x)) (And.intro (blk_touch HB.out.2.2 t1 (fun x => x)) (Nat.lt_of_lt_of_le HBW.out.1 t1.size)))
  clear t1 HB
  cases hgt : (decide (40 < N) || decide (200 < M) || decide (40 < R)) with
  | true =>
    go_wp2_with (go_at_call 13; fail)
    refine (law16_awake w1 (HL.out.1.old H1.out) (HL.out.2.touch H1.out (fun x => x))).mono ?_
    rintro e w2 ⟨rfl, t2⟩
    have H2 := Lib.hid ((H1.out.trans t2).below)
    clear t2
    go_wp2
    go_ret
    exact ⟨rfl, H2.out⟩
  | false =>
    simp only [Bool.or_eq_false_iff, decide_eq_false_iff_not] at hgt
    have HBd := Lib.hid hgt
    clear hgt
    go_wp2_with (go_at_call 13; fail)
    refine (law16_awake w1 (HL.out.1.old H1.out) (HL.out.2.touch H1.out (fun x => x))).mono ?_
    rintro e w2 ⟨rfl, t2⟩
    have H2 := Lib.hid (And.intro (H1.out.trans t2) (And.intro (blk_touch HB1.out.2.1 t2 (fun x => x)) (Nat.lt_of_lt_of_le HB1.out.2.2 t2.size)))
    obtain ⟨y0, y1, y2, y3, y4, y5, y6, y7, y8⟩ := box9 (blk_touch HB1.out.1 t2 (fun x => x))
    clear t2
    go_wp2_with (go_at_call 14; fail)
    obtain ⟨c, hc⟩ : ∃ c, little ⟨a0, a1, a2, a3, a4, a5, a6⟩ = c := ⟨_, rfl⟩
    have hgi := HG.out.1.old H2.out.1
    rw [HLn.out.1, HLn.out.2.1] at hgi
    refine (law16_Made ⟨a0, a1, a2, a3, a4, a5, a6⟩ c hc _ ths _ fs hgi.fb (by have h1 := HBd.out.1.2; have h2 := HLn.out.2.1; omega) w2 (HL.out.1.old H2.out.1) (HL.out.2.touch H2.out.1 (fun x => x)) hgi.th hgi.fv).mono ?_
    rintro e w3 ⟨A, rfl, W1, S, H, t3, hp, -, z, -, -, -, hz, hz2, -, -⟩
    have hol : S.objs.length ≤ 145 := by have := @objs_len S; omega
    have hrl : R ≤ 40 := by have := HBd.out.2; omega
    have hbb : W1.heap.size ≤ w3.heap.size := hp.at'.base.size
    have H3 := Lib.hid (And.intro (H2.out.1.trans t3) (And.intro hp (And.intro hol (And.intro ((HL.out.2.touch H2.out.1 (fun x => x)).touch t3 (fun x => x)) (And.intro (blk_touch H2.out.2.1 (t3.trans hp.at'.base) (fun x => x)) (show ∀ b, b < w2.heap.size → ¬ HT A b from fun b hb hm => by have := hp.at'.hi b hm; have := t3.size; omega))))))
    have HRt : Hid (∀ w', Touch nob w w' → Sy w' (.slice ar R c3) rt) := fun w' ht => by have := HG.out.2.2.old ht; rwa [HLn.out.2.2] at this
    clear t3 hp hz hz2 hol hgi hc y0 y1 y2 y3 y4 y5 y6 y7 y8 hbb
    obtain ⟨y0, y1, -, -⟩ := box2 H3.out.2.2.2.2.1
    go_wp2_with fail
    go_quiet (fail)
    obtain ⟨W3, hW3⟩ : ∃ W3, w3.drewN nq = W3 := ⟨_, rfl⟩
    have h33 := H3.out.2.1.old (w' := W3) (by rw [← hW3]; exact (Touch.refl nob _).drewN _)
    rw [hW3]
    have H33 := Lib.hid h33
    clear h33 hW3 y0 y1
    go_wp2_with (go_at_call 19; fail)
    refine (hp_Objects H33.out (H3.out.2.2.2.1.touch H33.out.at'.base (fun x => x))).mono ?_
    rintro e w5 ⟨v5, rfl, t5, h5, o5⟩
    obtain ⟨ao5, cp5, e5⟩ := o5.ints.shape
    subst e5
    have o5' : Ow w5 W3.heap.size (.slice ao5 S.objs.length cp5) S.objs := o5
    have hol := H3.out.2.2.1
    obtain ⟨n, hn⟩ : ∃ n, S.objs.length = n := ⟨_, rfl⟩
    rw [hn] at o5' hol ⊢
    have H5 := Lib.hid (And.intro h5 (And.intro o5' (And.intro hn (fun b (hb : b ∈ A.all) => h33_lt H33.out b hb))))
    clear t5 h5 o5 o5' hn
    have hne : rt ≠ [] → ∀ b, (Value.slice ar R c3).ownBlock = some b → ¬ HT A b := fun h0 b hb => H3.out.2.2.2.2.2 b (by
      have h1 := HG.out.2.1
      rw [HLn.out.2.2] at h1
      exact Nat.lt_of_lt_of_le (h1.lt h0 hb) H2.out.1.size)
    have HNe := Lib.hid hne
    have HRi : Hid (∀ w', Touch nob w w' → IntsIn w' (.slice ar R c3) rt) := fun w' ht => by have := HG.out.2.1.old ht; rwa [HLn.out.2.2] at this
    clear hne
    by_cases hc : q0 = 0 ∨ q0 = 1
    · have hc1 : ¬ q0 < 0 := by omega
      have hc2 : ¬ (1 : Int) < q0 := by omega
      by_cases hr : 1 ≤ q1 ∧ q1 ≤ 4096
      · have hr1 : ¬ q1 < 1 := by omega
        have hr2 : ¬ (4096 : Int) < q1 := by omega
        have HM := Lib.hid (tr_Mark (rt := rt) H5.out.1 H3.out.2.2.2.1 hc hr (by rw [H5.out.2.2.1]; omega) ar R c3 (HRi.out _ (H3.out.1.trans H5.out.1.at'.base)) HLn.out.2.2 HNe.out (by omega))
        clear hc hr
        go_wp2_with (go_at_call 46; fail)
        refine HM.out.mono ?_
        rintro e w6 ⟨m, al, K, rfl, t6, h6, hb6, hn6, hal, hrm⟩
        have hrch : S.blk q0 K = rchB S c rt := funext fun x => by
          rw [Bool.eq_iff_iff, rchB_iff]
          exact hb6 x
        have hmr : (rchL S c rt).length = m := by
          rw [hn6, hrch]; rfl
        have H6 := Lib.hid (And.intro h6 (And.intro hrch (And.intro hmr (And.intro hrm (ow_hp H5.out.2.1 t6 H5.out.2.2.2)))))
        have hml : m ≤ 145 := by rw [← hmr]; exact Nat.le_trans rchL_len H3.out.2.2.1
        clear t6 h6 hb6 hn6 hrm hrch hmr HM
        go_wp2_with (go_at_call 20; fail)
        refine (law16_Of (S := { S with K := K }) H6.out.1 H3.out.2.2.2.1 (by have := H3.out.2.2.1; exact Nat.le_trans this (by omega))).mono ?_
        rintro e w7 ⟨va, vt, tvs, rfl, t7, h7, eg7⟩
        have eg : EgAt w7 w6.heap.size va vt S.objs (S.objs.map (edT S c)) tvs := eg7
        have h7' : HpI W1 w7 A c { S with K := K } H := h7
        have hbd : ∀ x ∈ S.objs, 1 ≤ x ∧ x ≤ 1048576 := fun x hx => by
          have h1 := H33.out.inv.obj_bd (mem_objs.1 hx)
          have h2 := HS.len_le H33.out.at'
          omega
        have hsy : Sy w7 (.slice ar R c3) rt := HRt.out _ (H3.out.1.trans h7'.at'.base)
        have HR7 := Lib.hid (ref16_Reach (c := c) _ eg hbd hsy (by have h1 := HLn.out.2.2; have h2 := H3.out.2.2.1; omega))
        have ho7 := ow_hp H6.out.2.2.2.2 t7 H5.out.2.2.2
        have H7 := Lib.hid (And.intro h7' ho7)
        clear t7 h7 h7' eg7 eg hbd hsy ho7
        go_wp2_with (go_at_call 21; fail)
        refine HR7.out.mono ?_
        rintro e w8 ⟨v8, rfl, t8, o8⟩
        obtain ⟨ao8, cp8, e8⟩ := o8.ints.shape
        rw [H6.out.2.2.1] at e8
        subst e8
        have H8b : Hid (∀ b, (Value.slice ao8 m cp8).ownBlock = some b → ¬ HT A b) := fun b hb hm => by
          have h1 := o8.new b hb
          have h2 := H7.out.1.at'.lt b hm
          omega
        have H8 := Lib.hid (And.intro (H7.out.1.old t8) (And.intro (H7.out.2.touch t8 (fun _ _ x => x)) o8.ints))
        clear t8 o8 HR7 H7
        have hcs : ((n : Int) ≤ q1 ∧ ((al : Int) != 0) = false) ∨ ¬ (n : Int) ≤ q1 := by
          by_cases hrn : (n : Int) ≤ q1
          · exact .inl ⟨hrn, by rw [H6.out.2.2.2.1 (by rw [H5.out.2.2.1]; exact hrn)]; rfl⟩
          · exact .inr hrn
        have HB6 := Lib.hid H6.out.2.1
        have hd1 : ((al : Int) < 0) = False := by simp
        have hd2 : (m < al) = False := by simp; omega
        rcases hcs with ⟨hrn, hal9⟩ | hrn
        all_goals
          go_wp2_with (go_at_call 19; fail)
          refine (hp_Objects H8.out.1 (H3.out.2.2.2.1.touch H8.out.1.at'.base (fun x => x))).mono ?_
          rintro e w9 ⟨v9, rfl, t9, h9, o9⟩
          have o9' : Ow w9 w8.heap.size v9 S.objs := o9
          have h9' : HpI W1 w9 A c { S with K := K } H := h9
          obtain ⟨ao9, cp9, e9⟩ := o9'.ints.shape
          have hnn := H5.out.2.2.1
          rw [hnn] at e9
          subst e9
          have hva9 := ow_hp H8.out.2.1 t9 H5.out.2.2.2
          have hin9 := H8.out.2.2.touch2 t9 (fun _ b hb hm => by
            exact H8b.out b hb hm)
          have H9 := Lib.hid (And.intro h9' (And.intro hva9 (And.intro hin9 o9'.ints)))
          clear t9 h9 o9 o9' h9' hva9 hin9 hnn
          go_wp2_with (go_at_call 18; fail)
          refine (ref01_Same _ _ S.objs w9 (by have := H9.out.2.2.2; exact this) H9.out.2.1.ints (by have := H3.out.2.2.1; omega)).mono ?_
          rintro e w10 ⟨rfl, t10⟩
          have H10 := Lib.hid (And.intro (H9.out.1.old t10) (And.intro (H9.out.2.1.touch t10 (fun _ _ x => x)) (H9.out.2.2.1.old t10)))
          clear t10 H9
          go_wp2_with fail
          go_loopw [15] (fun iv wr => ∃ j : Nat, j ≤ n ∧ iv = .int .i64 j ∧ Hid (Touch nob w10 wr)) (fun iv _ => n - (intOf iv).toNat)
          case atStart => exact ⟨0, Nat.zero_le _, rfl, Touch.refl _ _⟩
          case round =>
            obtain ⟨j, hj, rfl, HI⟩ := hrel
            by_cases hlt : j < n
            · have hb3 : (j : Int) < (n : Int) := by omega
              obtain ⟨g, rfl, hcap, hcell⟩ := own_at (H10.out.2.1.touch HI.out (fun _ _ x => x)) rfl H5.out.2.2.1 hlt
              obtain ⟨x, hx⟩ : ∃ x, S.objs.getD j 0 = x := ⟨_, rfl⟩
              have hjl : j < S.objs.length := by rw [H5.out.2.2.1]; exact hlt
              rw [hx] at hcell
              have ho : S.obj x = true := mem_objs.1 (by rw [← hx, List.getD_eq_getElem?_getD, List.getElem?_eq_getElem hjl]; exact List.getElem_mem hjl)
              have hcol := hp_ColorE x (H10.out.1.old HI.out)
              have hE : ({ S with K := K } : HS).colE x = 0 := by
                unfold HS.colE
                exact if_pos ho
              rw [hE] at hcol
              obtain ⟨V, hV⟩ : ∃ V, ({ S with K := K } : HS).colV x = V := ⟨_, rfl⟩
              rw [hV] at hcol
              obtain ⟨G, hG⟩ : ∃ G, rchB S c rt x = G := ⟨_, rfl⟩
              have hVG : (V == q0) = G := by
                have h1 : S.blk q0 K x = rchB S c rt x := by rw [HB6.out]
                unfold HS.blk at h1
                rw [ho, hV, hG] at h1
                rw [← h1]
                by_cases hh : V = q0 <;> simp [hh]
              have hin := in_ints_of (H10.out.2.2.old HI.out) x (by have h1 := @rchL_len c S rt; have h2 := H3.out.2.2.1; omega)
              rw [show decide (x ∈ rchL S c rt) = G by rw [← hG, Bool.eq_iff_iff, decide_eq_true_iff, mem_rchL, rchB_iff]] at hin
              have HC := Lib.hid (And.intro hcol hin)
              clear hx hjl ho hcol hE hV hG hin
              cases G with
              | false =>
                go_wp2_with (go_at_call 35; fail)
                refine HC.out.1.mono ?_
                rintro e w11 ⟨rfl, rfl⟩
                go_wp2_with (go_at_call 16; fail)
                refine HC.out.2.mono ?_
                rintro e w12 ⟨rfl, t12⟩
                have H12 := Lib.hid (HI.out.trans t12)
                clear t12 hcell
                go_wp2
                go_roundw
                case rel =>
                  exact ⟨j + 1, by omega, by go_num, H12⟩
                case measure => simp [intOf]; omega
              | true =>
                go_wp2_with (go_at_call 35; fail)
                refine HC.out.1.mono ?_
                rintro e w11 ⟨rfl, rfl⟩
                go_wp2_with (go_at_call 16; fail)
                refine HC.out.2.mono ?_
                rintro e w12 ⟨rfl, t12⟩
                have H12 := Lib.hid (HI.out.trans t12)
                clear t12 hcell
                go_wp2
                go_roundw
                case rel => exact ⟨j + 1, by omega, by go_num, H12⟩
                case measure => simp [intOf]; omega
            · obtain rfl : j = n := by omega
              have hb3 : ¬ (j : Int) < (j : Int) := by omega
              have HE := Lib.hid (((H3.out.1.trans H10.out.1.at'.base).trans HI.out).below)
              go_wp2
              go_ret
              exact ⟨rfl, HE.out⟩
      · have hrr : q1 < 1 ∨ 4096 < q1 := by omega
        have HM := Lib.hid (tr_Mark_no A.h q0 q1 4 (.inr ⟨⟨hc, hrr⟩, rfl⟩) (.slice ar R c3) w5)
        have HH5 := Lib.hid ((H3.out.1.trans H5.out.1.at'.base))
        clear hc hr H5
        rcases hrr with hr1 | hr1
        all_goals
          go_wp2_with (go_at_call 46; fail)
          refine HM.out.mono ?_
          rintro e w6 ⟨rfl, t6⟩
          have HE := Lib.hid ((HH5.out.trans t6).below)
          clear t6
          go_wp2
          go_ret
          exact ⟨rfl, HE.out⟩
    · have hcc : q0 < 0 ∨ 1 < q0 := by omega
      have HM := Lib.hid (tr_Mark_no A.h q0 q1 1 (.inl ⟨by omega, rfl⟩) (.slice ar R c3) w5)
      have HH5 := Lib.hid ((H3.out.1.trans H5.out.1.at'.base))
      clear hc H5
      rcases hcc with hr1 | hr1
      all_goals
        go_wp2_with (go_at_call 46; fail)
        refine HM.out.mono ?_
        rintro e w6 ⟨rfl, t6⟩
        have HE := Lib.hid ((HH5.out.trans t6).below)
        clear t6
        go_wp2
        go_ret
        exact ⟨rfl, HE.out⟩
end Go.Proofs.YtnobempbcdkoaaaGreatDoor
