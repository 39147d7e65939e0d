/- NoteRuns, walked. Conditions: the tables of limits, of sizes and of de Bruijn's bits read as laid. -/
import Derived.Test.YtnobempbcdkoaaaGreatDoorNoq
import Derived.Test.YtnobempbcdkoaaaGreatDoorNor
namespace Go.Proofs.YtnobempbcdkoaaaGreatDoor
open Go.RowKit

variable {w : World}
/-- Beside a flag. -/
structure FlI (W1 : World) (f : Nat) (b : Bool) (w : World) : Prop where
  tb : Touch nob W1 w
  fl : w.heap[f]? = some (Obj.cells #[.bool b] 121)
  no : W1.heap.size ≤ f
theorem FlI.old {W1 w w' : World} {f : Nat} {b : Bool} (h : FlI W1 f b w) (ht : Touch nob w w') : FlI W1 f b w' := ⟨h.tb.trans ht, blk_touch h.fl ht (fun x => x), h.no⟩
theorem FlI.set {W1 w w' : World} {f : Nat} {b b' : Bool} (h : FlI W1 f b w) (ht : Touch (fun k => k = f) w w') (hf : w'.heap[f]? = some (Obj.cells #[.bool b'] 121)) : FlI W1 f b' w' := ⟨h.tb.step ht (fun k hk => .inr ((show k = f from hk) ▸ h.no)), hf, h.no⟩
set_option maxRecDepth 20000 in
set_option maxHeartbeats 4000000 in
theorem nruns {w : World} (a0 a1 a2 a3 a4 a5 a6 : Int) (th : Value) (r1 : List (List Value)) (s1 : IsSlice w th [some .u8, some .u8, none] r1) (bf : Value) (r2 : List (List Value)) (s2 : IsSlice w bf [some .u8] r2) (bx : Value) (r3 : List (List Value)) (s3 : IsSlice w bx [some .u8] r3) (rm : Int) (hq0 : (Lit.int .u8 rm).wf = true) (up : Bool) (most : Int) (hm : (Lit.int .i64 most).wf = true) (hTab : Tab w) (hLim : Limits w) (hS : Sizes w) :
    Calls Tryz.prog 8 #[CsV ⟨a0, a1, a2, a3, a4, a5, a6⟩ th bf bx rm up, .int .i64 most] w fun e w' => e = .returned (.bool true) ∧ Below w.heap.size w w' := by
  obtain ⟨N0, hI0, -⟩ := rows_of_slice s1 (by simp)
  obtain ⟨ths, -, hth⟩ := ThIn.of_rows hI0
  obtain ⟨ks, hbf, -, hkb⟩ := k_of_slice s2
  obtain ⟨ls, hbx, -, hlb⟩ := k_of_slice s3
  have hrm := bounds_u8 hq0
  obtain ⟨at1, c1, rfl, -⟩ := id hth
  obtain ⟨af, c2, rfl⟩ := hbf.shape
  obtain ⟨ar, c3, rfl⟩ := hbx.shape
  obtain ⟨N, hN⟩ : ∃ N, ths.length = N := ⟨_, rfl⟩
  obtain ⟨M, hM⟩ : ∃ M, ks.length = M := ⟨_, rfl⟩
  obtain ⟨R, hR⟩ : ∃ R, ls.length = R := ⟨_, rfl⟩
  have HG := Lib.hid (And.intro hth (And.intro hbf (And.intro hbx (And.intro hkb (And.intro hlb hrm)))))
  have HLn := Lib.hid (And.intro hN (And.intro hM hR))
  have HL := Lib.hid (And.intro (Laid.mk hLim hS) hTab)
  rw [hN, hM, hR]
  clear hth hbf hbx hkb hlb hI0 s1 s2 s3 hLim hS hTab hN hM hR hq0 hrm
  go_enter Tryz.func8, Tryz.ntmps8
  go_wp2_with fail
  obtain ⟨W0, hW⟩ : ∃ W, W = w.alloc (Obj.cells (CsR ⟨a0, a1, a2, a3, a4, a5, a6⟩ (.slice at1 N c1) (.slice af M c2) (.slice ar R c3) rm up) 54) := ⟨_, rfl⟩
  have hT : Touch nob w W0 := by rw [hW]; (repeat (first | with_reducible exact Touch.refl _ _ | with_reducible assumption | with_reducible apply Touch.alloc | with_reducible apply Touch.drewN | with_reducible apply Touch.drew | with_reducible refine Touch.setCell ?_ (.inr (by first | omega | (simp; done) | (simp; omega))) _))
  obtain ⟨b0, hb0⟩ : ∃ b, b = w.heap.size := ⟨_, rfl⟩
  rw [← hW, ← hb0]
  have hbx : W0.heap[b0]? = some (Obj.cells (CsR ⟨a0, a1, a2, a3, a4, a5, a6⟩ (.slice at1 N c1) (.slice af M c2) (.slice ar R c3) rm up) 54) := by rw [hW, hb0]; exact World.alloc_heap_new w _
  have HB := Lib.hid (And.intro hT hbx)
  clear hW hb0 hT hbx
  obtain ⟨y0, y1, y2, y3, y4, y5, y6, y7, y8, y9, ya, yb⟩ := box12 HB.out.2
  go_wp2_with (go_at_call 26; fail)
  refine (law19_great ⟨a0, a1, a2, a3, a4, a5, a6⟩ W0 at1 af ar N c1 M c2 R c3 rm up).mono ?_
  rintro e w1 ⟨rfl, t1⟩
  have H1 := Lib.hid (And.intro (HB.out.1.trans t1) (blk_touch HB.out.2 t1 (fun x => x)))
  clear t1 HB y0 y1 y2 y3 y4 y5 y6 y7 y8 y9 ya yb
  cases hgt : (decide (30 < N) || decide (40 < M) || decide (40 < R)) with
  | true =>
    go_wp2_with (go_at_call 27; fail)
    refine (law19_awake w1 (HL.out.1.old H1.out.1)).mono ?_
    rintro e w2 ⟨rfl, t2⟩
    have H2 := Lib.hid ((H1.out.1.trans t2).below)
    clear t2
    go_wp2
    go_ret
    exact ⟨rfl, H2.out⟩
  | false =>
    simp only [Bool.or_eq_false_iff, decide_eq_false_iff_not] at hgt
    have HBd := Lib.hid hgt
    clear hgt
    go_wp2_with (go_at_call 27; fail)
    refine (law19_awake w1 (HL.out.1.old H1.out.1)).mono ?_
    rintro e w2 ⟨rfl, t2⟩
    have H2 := Lib.hid (And.intro (H1.out.1.trans t2) (blk_touch H1.out.2 t2 (fun x => x)))
    obtain ⟨y0, y1, y2, y3, y4, y5, y6, y7, y8, y9, ya, yb⟩ := box12 H2.out.2
    clear t2
    go_wp2_with (go_at_call 28; fail)
    obtain ⟨c, hc⟩ : ∃ c, little ⟨a0, a1, a2, a3, a4, a5, a6⟩ = c := ⟨_, rfl⟩
    have hpt := law19_parts ⟨a0, a1, a2, a3, a4, a5, a6⟩ c hc _ _ _ ths ks ls rm up w2 (HL.out.1.old H2.out.1) (HL.out.2.touch H2.out.1 (fun x => x)) (HG.out.1.old H2.out.1) (HG.out.2.1.old H2.out.1) (HG.out.2.2.1.old H2.out.1) (fun j hj => bounds_u8 (HG.out.2.2.2.1 j hj)) (fun j hj => bounds_u8 (HG.out.2.2.2.2.1 j hj)) (by have h1 := HBd.out; have h2 := HLn.out.2.1; omega) (by have h1 := HBd.out; have h2 := HLn.out.2.2; omega) HG.out.2.2.2.2.2
    rw [HLn.out.1, HLn.out.2.1, HLn.out.2.2] at hpt
    refine hpt.mono ?_
    rintro e w3 ⟨A, p, q, f, rfl, W1, S, H, bs, xs, t3, hP, hbm, hxm, hxl, hol⟩
    obtain ⟨r6, hr6⟩ : ∃ r, rm % 6 = r := ⟨_, rfl⟩
    rw [hr6] at hP
    have HR6 := Lib.hid (And.intro hr6 HG.out.2.2.2.2.2)
    have H3 := Lib.hid (And.intro (H2.out.1.trans t3) (And.intro hP (And.intro hbm (And.intro hxm (And.intro hxl (And.intro hol ((HL.out.2.touch H2.out.1 (fun x => x)).touch t3 (fun x => x))))))))
    have HBX : Hid (∀ wr, Touch nob W1 wr → wr.heap[b0]? = some (Obj.cells (CsR ⟨a0, a1, a2, a3, a4, a5, a6⟩ (.slice at1 N c1) (.slice af M c2) (.slice ar R c3) rm up) 54)) := fun wr ht => blk_touch H2.out.2 (t3.trans ht) (fun x => x)
    clear t3 hP hbm hxm hxl hol hc hpt hr6 y0 y1 y2 y3 y4 y5 y6 y7 y8 y9 ya yb
    go_wp2_with (go_at_call 29; fail)
    refine (note_New_ok A.h p q f w3).mono ?_
    rintro e w4 ⟨n, rfl, hn4, t4, hb4⟩
    have HN4 := Lib.hid (H3.out.2.1.nt t4 hn4 hb4)
    clear hn4 t4 hb4
    go_wp2_with (go_at_call 36; fail)
    refine (law19_colors HN4.out.hp (H3.out.2.2.2.2.2.2.touch HN4.out.hp.at'.base (fun x => x)) (Nat.le_trans H3.out.2.2.2.2.2.1 (by decide))).mono ?_
    rintro e w5 ⟨va, vc, rfl, t5, h5, oa, oc⟩
    have HN5 := Lib.hid (HN4.out.heap t5 h5)
    have HO5 := Lib.hid (And.intro oa oc)
    clear t5 h5 oa oc
    go_wp2_with (go_at_call 30; fail)
    obtain ⟨u5, hb5, -⟩ := HN5.out.buf
    refine (buf_All2 hb5).mono ?_
    rintro e w6 ⟨v6, rfl, t6, hs6, -⟩
    have H6 := Lib.hid (And.intro (HN5.out.old t6) (And.intro hs6 t6))
    clear t6 hs6 hb5
    go_wp2_with (go_at_call 37; fail)
    obtain ⟨y6, hx6, -⟩ := H6.out.1.box
    refine (box_Len hx6).mono ?_
    rintro e w7 ⟨rfl, rfl⟩
    clear hx6
    obtain ⟨X, hX⟩ : ∃ X, xs.length = X := ⟨_, rfl⟩
    rw [hX]
    have HX := Lib.hid hX
    clear hX
    go_wp2_with (go_at_call 40; fail)
    have hmb : ∀ z, z ∈ bs → S.obj z = true := fun z hz => mem_objs.1 (H3.out.2.2.1 z hz)
    refine (law19_poured (col := 1) S.colV (HO5.out.1.touch H6.out.2.2 (fun _ _ x => x)).ints (HO5.out.2.touch H6.out.2.2 (fun _ _ x => x)).ints (sl_ints H6.out.2.1) (Nat.le_trans H3.out.2.2.2.2.2.1 (by decide)) (by rw [List.length_map]) (by have := H6.out.1.ln; omega) H3.out.2.2.1 (fun j hj => by rw [List.getD_eq_getElem?_getD, List.getD_eq_getElem?_getD, List.getElem?_map, List.getElem?_eq_getElem hj]; rfl) X (by have h1 := HX.out; have h2 := H3.out.2.2.2.2.1; omega)).mono ?_
    rintro e w8 ⟨vf, F, K, rfl, t8, -, -, hPw⟩
    rw [← HX.out] at hPw
    have hK := (pour_plain (up := up) (by decide) hmb hPw).1
    have hKb : 0 + pourK S 1 bs xs ≤ 1000000 := by
      have h1 := H6.out.1.ln
      unfold pourK
      split
      · omega
      · split
        · omega
        · split <;> omega
    have H8 := Lib.hid (And.intro (H6.out.1.old t8) (And.intro hK hKb))
    clear hmb hPw t8 hK hKb
    go_wp2_with (go_at_call 43; fail)
    refine (does_pour (m := 0) (I := fun w' => Touch (NoT A p q f) w8 w' ∧ ∃ b, w'.heap[f]? = some (Obj.cells #[.bool b] 121)) (Q := fun _ => True) (.inl rfl) H8.out.1 (fun w' ht hf => ⟨ht, hf⟩) (fun w' ht hN' => ⟨rfl, ⟨ht, _, hN'.fl⟩, trivial⟩)).mono ?_
    rintro e w9 ⟨sv, rfl, t9, hD⟩
    have HD := Lib.hid hD
    clear t9 hD
    go_wp2_with (go_at_call 31; fail)
    refine (note_Run (0 + pourK S 1 bs xs) most sv HD.out H8.out.2.2).mono ?_
    rintro e w10 ⟨k, rfl, hk, ⟨t10, fb, hfb⟩, -⟩
    rw [Nat.zero_add, H8.out.2.1] at hk
    rw [Nat.zero_add, H8.out.2.1]
    have hF : FlI W1 f fb w10 := by
      refine ⟨H8.out.1.hp.at'.base.step t10 (fun b hb => .inr ?_), hfb, (H8.out.1.no f (.inr (.inr (.inr rfl)))).2⟩
      rcases hb with h | h | h | h
      · exact H8.out.1.hp.at'.hi b h
      · exact (H8.out.1.no b (.inr (.inl h))).2
      · exact (H8.out.1.no b (.inr (.inr (.inl h)))).2
      · exact (H8.out.1.no b (.inr (.inr (.inr h)))).2
    have HF := Lib.hid hF
    clear hF t10 hfb
    have hcs : ((K : Int) ≤ most ∧ k = K ∧ K = 0) ∨ ((K : Int) ≤ most ∧ k = K ∧ K ≠ 0) ∨ (most < K ∧ 0 < most ∧ (k : Int) = most ∧ K ≠ 0) ∨ (most ≤ 0 ∧ most = 0 ∧ k = 0 ∧ K ≠ 0) ∨ (most < 0 ∧ k = 0 ∧ K = 0) ∨ (most < 0 ∧ k = 0 ∧ K ≠ 0) := by omega
    clear hk
    rcases hcs with ⟨h1, rfl, h3⟩ | ⟨h1, rfl, h3⟩ | ⟨h1, h2, h3, h4⟩ | ⟨h1, h2, rfl, h4⟩ | ⟨h1, rfl, h3⟩ | ⟨h1, rfl, h3⟩
    · have hx1 : ¬ (most < (k : Int)) := by omega
      have hx2 : ((k : Int) == 0) = true := by simp; omega
      have hx3 : ¬ ((0 : Int) < (k : Int)) := by omega
      subst h3
      rw [decide_eq_true rfl]
      go_wp2_with (go_at_call 29; fail)
      refine (note_New_no2 A.h p (pt f) w10).mono ?_
      rintro e wa ⟨rfl, rfl⟩
      go_wp2_with (go_at_call 29; fail)
      refine (note_New_no0 (pt p) (pt q) (pt f) w10).mono ?_
      rintro e wa ⟨rfl, rfl⟩
      go_wp2_with (go_at_call 29; fail)
      refine (note_New_no1 A.h (pt q) (pt f) w10).mono ?_
      rintro e wa ⟨rfl, rfl⟩
      go_wp2_with (go_at_call 29; fail)
      refine (note_New_no3 A.h p q w10).mono ?_
      rintro e wa ⟨rfl, rfl⟩
      go_wp2_with (go_at_call 38; fail)
      refine (note_Once .nilFunc (.inl rfl) w10).mono ?_
      rintro e wa ⟨ba, rfl, -, ta, oa⟩
      have Ha := Lib.hid (And.intro (HF.out.old ta) oa)
      clear ta oa
      go_wp2_with (go_at_call 32; fail)
      refine (note_Note_nil 1 1 _ (.inr ⟨_, _, rfl⟩) wa).mono ?_
      rintro e wb ⟨rfl, tb⟩
      have Hb := Lib.hid (And.intro (Ha.out.1.old tb) (blk_touch Ha.out.2 tb (fun x => x)))
      clear tb
      go_wp2_with (go_at_call 31; fail)
      refine (note_Run (I := fun w' => FlI W1 f fb w') (Q := fun _ => True) 1 5 _ (does_once Hb.out.2 Hb.out.1 trivial) (by decide)).mono ?_
      rintro e wc ⟨k1, rfl, hk1, hc1, -⟩
      obtain rfl : k1 = 1 := by omega
      have Hc := Lib.hid hc1
      clear hk1 hc1
      go_wp2_with (go_at_call 38; fail)
      refine (note_Once .nilFunc (.inl rfl) wc).mono ?_
      rintro e wd ⟨bd, rfl, -, td, od⟩
      have Hd := Lib.hid (And.intro (Hc.out.old td) od)
      clear td od
      go_wp2_with (go_at_call 43; fail)
      refine (note_Pour_nil 1 _ (.inr ⟨_, _, rfl⟩) wd).mono ?_
      rintro e we ⟨rfl, te⟩
      have He := Lib.hid (And.intro (Hd.out.1.old te) (blk_touch Hd.out.2 te (fun x => x)))
      clear te
      go_wp2_with (go_at_call 31; fail)
      refine (note_Run (I := fun w' => FlI W1 f fb w') (Q := fun _ => True) 1 5 _ (does_once He.out.2 He.out.1 trivial) (by decide)).mono ?_
      rintro e wg ⟨k2, rfl, hk2, hg2, -⟩
      obtain rfl : k2 = 1 := by omega
      have Hg := Lib.hid hg2
      clear hk2 hg2
      go_wp2_with (go_at_call 44; fail)
      refine (flag_Raise f fb Hg.out.fl).mono ?_
      rintro e wh ⟨rfl, th', hh'⟩
      have Hh := Lib.hid (Hg.out.set th' hh')
      clear th' hh'
      go_wp2_with (go_at_call 44; fail)
      refine (flag_Raise_nil wh).mono ?_
      rintro e wi ⟨rfl, rfl⟩
      go_wp2_with (go_at_call 41; fail)
      refine (flag_Up f true Hh.out.fl).mono ?_
      rintro e wi ⟨rfl, rfl⟩
      go_wp2_with (go_at_call 45; fail)
      refine (flag_Lower f true Hh.out.fl).mono ?_
      rintro e wj ⟨rfl, tj, hj'⟩
      have Hj := Lib.hid (Hh.out.set tj hj')
      clear tj hj'
      go_wp2_with (go_at_call 41; fail)
      refine (flag_Up f false Hj.out.fl).mono ?_
      rintro e wi ⟨rfl, rfl⟩
      go_wp2_with (go_at_call 45; fail)
      refine (flag_Lower f false Hj.out.fl).mono ?_
      rintro e wk ⟨rfl, tk, hk'⟩
      have Hk := Lib.hid (Hj.out.set tk hk')
      clear tk hk'
      go_wp2_with (go_at_call 41; fail)
      refine (flag_Up_nil wk).mono ?_
      rintro e wi ⟨rfl, rfl⟩
      go_wp2_with (go_at_call 45; fail)
      refine (flag_Lower_nil wk).mono ?_
      rintro e wi ⟨rfl, rfl⟩
      go_wp2
      go_ret
      exact ⟨by first | rfl | trivial, (H3.out.1.trans Hk.out.tb).below⟩
    · have hx1 : ¬ (most < (k : Int)) := by omega
      have hx2 : ((k : Int) == 0) = false := by simp; omega
      have hx3 : (0 : Int) < (k : Int) := by omega
      have hx4 : 0 < k := by omega
      rw [decide_eq_true rfl]
      go_wp2_with (go_at_call 29; fail)
      refine (note_New_no2 A.h p (pt f) w10).mono ?_
      rintro e wa ⟨rfl, rfl⟩
      go_wp2_with (go_at_call 29; fail)
      refine (note_New_no0 (pt p) (pt q) (pt f) w10).mono ?_
      rintro e wa ⟨rfl, rfl⟩
      go_wp2_with (go_at_call 29; fail)
      refine (note_New_no1 A.h (pt q) (pt f) w10).mono ?_
      rintro e wa ⟨rfl, rfl⟩
      go_wp2_with (go_at_call 29; fail)
      refine (note_New_no3 A.h p q w10).mono ?_
      rintro e wa ⟨rfl, rfl⟩
      go_wp2_with (go_at_call 38; fail)
      refine (note_Once .nilFunc (.inl rfl) w10).mono ?_
      rintro e wa ⟨ba, rfl, -, ta, oa⟩
      have Ha := Lib.hid (And.intro (HF.out.old ta) oa)
      clear ta oa
      go_wp2_with (go_at_call 32; fail)
      refine (note_Note_nil 1 1 _ (.inr ⟨_, _, rfl⟩) wa).mono ?_
      rintro e wb ⟨rfl, tb⟩
      have Hb := Lib.hid (And.intro (Ha.out.1.old tb) (blk_touch Ha.out.2 tb (fun x => x)))
      clear tb
      go_wp2_with (go_at_call 31; fail)
      refine (note_Run (I := fun w' => FlI W1 f fb w') (Q := fun _ => True) 1 5 _ (does_once Hb.out.2 Hb.out.1 trivial) (by decide)).mono ?_
      rintro e wc ⟨k1, rfl, hk1, hc1, -⟩
      obtain rfl : k1 = 1 := by omega
      have Hc := Lib.hid hc1
      clear hk1 hc1
      go_wp2_with (go_at_call 38; fail)
      refine (note_Once .nilFunc (.inl rfl) wc).mono ?_
      rintro e wd ⟨bd, rfl, -, td, od⟩
      have Hd := Lib.hid (And.intro (Hc.out.old td) od)
      clear td od
      go_wp2_with (go_at_call 43; fail)
      refine (note_Pour_nil 1 _ (.inr ⟨_, _, rfl⟩) wd).mono ?_
      rintro e we ⟨rfl, te⟩
      have He := Lib.hid (And.intro (Hd.out.1.old te) (blk_touch Hd.out.2 te (fun x => x)))
      clear te
      go_wp2_with (go_at_call 31; fail)
      refine (note_Run (I := fun w' => FlI W1 f fb w') (Q := fun _ => True) 1 5 _ (does_once He.out.2 He.out.1 trivial) (by decide)).mono ?_
      rintro e wg ⟨k2, rfl, hk2, hg2, -⟩
      obtain rfl : k2 = 1 := by omega
      have Hg := Lib.hid hg2
      clear hk2 hg2
      go_wp2_with (go_at_call 44; fail)
      refine (flag_Raise f fb Hg.out.fl).mono ?_
      rintro e wh ⟨rfl, th', hh'⟩
      have Hh := Lib.hid (Hg.out.set th' hh')
      clear th' hh'
      go_wp2_with (go_at_call 44; fail)
      refine (flag_Raise_nil wh).mono ?_
      rintro e wi ⟨rfl, rfl⟩
      go_wp2_with (go_at_call 41; fail)
      refine (flag_Up f true Hh.out.fl).mono ?_
      rintro e wi ⟨rfl, rfl⟩
      go_wp2_with (go_at_call 45; fail)
      refine (flag_Lower f true Hh.out.fl).mono ?_
      rintro e wj ⟨rfl, tj, hj'⟩
      have Hj := Lib.hid (Hh.out.set tj hj')
      clear tj hj'
      go_wp2_with (go_at_call 41; fail)
      refine (flag_Up f false Hj.out.fl).mono ?_
      rintro e wi ⟨rfl, rfl⟩
      go_wp2_with (go_at_call 45; fail)
      refine (flag_Lower f false Hj.out.fl).mono ?_
      rintro e wk ⟨rfl, tk, hk'⟩
      have Hk := Lib.hid (Hj.out.set tk hk')
      clear tk hk'
      go_wp2_with (go_at_call 41; fail)
      refine (flag_Up_nil wk).mono ?_
      rintro e wi ⟨rfl, rfl⟩
      go_wp2_with (go_at_call 45; fail)
      refine (flag_Lower_nil wk).mono ?_
      rintro e wi ⟨rfl, rfl⟩
      go_wp2
      go_ret
      exact ⟨by first | rfl | trivial, (H3.out.1.trans Hk.out.tb).below⟩
    · have hx0 : most < (K : Int) := h1
      have hx1 : ¬ ((K : Int) ≤ most) := by omega
      have hx2 : ((K : Int) == 0) = false := by simp; omega
      have hx3 : ¬ (most < 0) := by omega
      rw [decide_eq_false (show ¬ k = K by omega), h3]
      clear h3
      go_wp2_with (go_at_call 29; fail)
      refine (note_New_no2 A.h p (pt f) w10).mono ?_
      rintro e wa ⟨rfl, rfl⟩
      go_wp2_with (go_at_call 29; fail)
      refine (note_New_no0 (pt p) (pt q) (pt f) w10).mono ?_
      rintro e wa ⟨rfl, rfl⟩
      go_wp2_with (go_at_call 29; fail)
      refine (note_New_no1 A.h (pt q) (pt f) w10).mono ?_
      rintro e wa ⟨rfl, rfl⟩
      go_wp2_with (go_at_call 29; fail)
      refine (note_New_no3 A.h p q w10).mono ?_
      rintro e wa ⟨rfl, rfl⟩
      go_wp2_with (go_at_call 38; fail)
      refine (note_Once .nilFunc (.inl rfl) w10).mono ?_
      rintro e wa ⟨ba, rfl, -, ta, oa⟩
      have Ha := Lib.hid (And.intro (HF.out.old ta) oa)
      clear ta oa
      go_wp2_with (go_at_call 32; fail)
      refine (note_Note_nil 1 1 _ (.inr ⟨_, _, rfl⟩) wa).mono ?_
      rintro e wb ⟨rfl, tb⟩
      have Hb := Lib.hid (And.intro (Ha.out.1.old tb) (blk_touch Ha.out.2 tb (fun x => x)))
      clear tb
      go_wp2_with (go_at_call 31; fail)
      refine (note_Run (I := fun w' => FlI W1 f fb w') (Q := fun _ => True) 1 5 _ (does_once Hb.out.2 Hb.out.1 trivial) (by decide)).mono ?_
      rintro e wc ⟨k1, rfl, hk1, hc1, -⟩
      obtain rfl : k1 = 1 := by omega
      have Hc := Lib.hid hc1
      clear hk1 hc1
      go_wp2_with (go_at_call 38; fail)
      refine (note_Once .nilFunc (.inl rfl) wc).mono ?_
      rintro e wd ⟨bd, rfl, -, td, od⟩
      have Hd := Lib.hid (And.intro (Hc.out.old td) od)
      clear td od
      go_wp2_with (go_at_call 43; fail)
      refine (note_Pour_nil 1 _ (.inr ⟨_, _, rfl⟩) wd).mono ?_
      rintro e we ⟨rfl, te⟩
      have He := Lib.hid (And.intro (Hd.out.1.old te) (blk_touch Hd.out.2 te (fun x => x)))
      clear te
      go_wp2_with (go_at_call 31; fail)
      refine (note_Run (I := fun w' => FlI W1 f fb w') (Q := fun _ => True) 1 5 _ (does_once He.out.2 He.out.1 trivial) (by decide)).mono ?_
      rintro e wg ⟨k2, rfl, hk2, hg2, -⟩
      obtain rfl : k2 = 1 := by omega
      have Hg := Lib.hid hg2
      clear hk2 hg2
      go_wp2_with (go_at_call 44; fail)
      refine (flag_Raise f fb Hg.out.fl).mono ?_
      rintro e wh ⟨rfl, th', hh'⟩
      have Hh := Lib.hid (Hg.out.set th' hh')
      clear th' hh'
      go_wp2_with (go_at_call 44; fail)
      refine (flag_Raise_nil wh).mono ?_
      rintro e wi ⟨rfl, rfl⟩
      go_wp2_with (go_at_call 41; fail)
      refine (flag_Up f true Hh.out.fl).mono ?_
      rintro e wi ⟨rfl, rfl⟩
      go_wp2_with (go_at_call 45; fail)
      refine (flag_Lower f true Hh.out.fl).mono ?_
      rintro e wj ⟨rfl, tj, hj'⟩
      have Hj := Lib.hid (Hh.out.set tj hj')
      clear tj hj'
      go_wp2_with (go_at_call 41; fail)
      refine (flag_Up f false Hj.out.fl).mono ?_
      rintro e wi ⟨rfl, rfl⟩
      go_wp2_with (go_at_call 45; fail)
      refine (flag_Lower f false Hj.out.fl).mono ?_
      rintro e wk ⟨rfl, tk, hk'⟩
      have Hk := Lib.hid (Hj.out.set tk hk')
      clear tk hk'
      go_wp2_with (go_at_call 41; fail)
      refine (flag_Up_nil wk).mono ?_
      rintro e wi ⟨rfl, rfl⟩
      go_wp2_with (go_at_call 45; fail)
      refine (flag_Lower_nil wk).mono ?_
      rintro e wi ⟨rfl, rfl⟩
      go_wp2
      go_ret
      exact ⟨by first | rfl | trivial, (H3.out.1.trans Hk.out.tb).below⟩
    · have hx0 : (0 : Int) < (K : Int) := by omega
      have hx1 : ¬ ((K : Int) ≤ 0) := by omega
      have hx2 : ((K : Int) == 0) = false := by simp; omega
      have hx5 : 0 < K := by omega
      have hx6 : ¬ K = 0 := by omega
      rw [decide_eq_false (show ¬ 0 = K by omega)]
      subst h2
      go_wp2_with (go_at_call 29; fail)
      refine (note_New_no2 A.h p (pt f) w10).mono ?_
      rintro e wa ⟨rfl, rfl⟩
      go_wp2_with (go_at_call 29; fail)
      refine (note_New_no0 (pt p) (pt q) (pt f) w10).mono ?_
      rintro e wa ⟨rfl, rfl⟩
      go_wp2_with (go_at_call 29; fail)
      refine (note_New_no1 A.h (pt q) (pt f) w10).mono ?_
      rintro e wa ⟨rfl, rfl⟩
      go_wp2_with (go_at_call 29; fail)
      refine (note_New_no3 A.h p q w10).mono ?_
      rintro e wa ⟨rfl, rfl⟩
      go_wp2_with (go_at_call 38; fail)
      refine (note_Once .nilFunc (.inl rfl) w10).mono ?_
      rintro e wa ⟨ba, rfl, -, ta, oa⟩
      have Ha := Lib.hid (And.intro (HF.out.old ta) oa)
      clear ta oa
      go_wp2_with (go_at_call 32; fail)
      refine (note_Note_nil 1 1 _ (.inr ⟨_, _, rfl⟩) wa).mono ?_
      rintro e wb ⟨rfl, tb⟩
      have Hb := Lib.hid (And.intro (Ha.out.1.old tb) (blk_touch Ha.out.2 tb (fun x => x)))
      clear tb
      go_wp2_with (go_at_call 31; fail)
      refine (note_Run (I := fun w' => FlI W1 f fb w') (Q := fun _ => True) 1 5 _ (does_once Hb.out.2 Hb.out.1 trivial) (by decide)).mono ?_
      rintro e wc ⟨k1, rfl, hk1, hc1, -⟩
      obtain rfl : k1 = 1 := by omega
      have Hc := Lib.hid hc1
      clear hk1 hc1
      go_wp2_with (go_at_call 38; fail)
      refine (note_Once .nilFunc (.inl rfl) wc).mono ?_
      rintro e wd ⟨bd, rfl, -, td, od⟩
      have Hd := Lib.hid (And.intro (Hc.out.old td) od)
      clear td od
      go_wp2_with (go_at_call 43; fail)
      refine (note_Pour_nil 1 _ (.inr ⟨_, _, rfl⟩) wd).mono ?_
      rintro e we ⟨rfl, te⟩
      have He := Lib.hid (And.intro (Hd.out.1.old te) (blk_touch Hd.out.2 te (fun x => x)))
      clear te
      go_wp2_with (go_at_call 31; fail)
      refine (note_Run (I := fun w' => FlI W1 f fb w') (Q := fun _ => True) 1 5 _ (does_once He.out.2 He.out.1 trivial) (by decide)).mono ?_
      rintro e wg ⟨k2, rfl, hk2, hg2, -⟩
      obtain rfl : k2 = 1 := by omega
      have Hg := Lib.hid hg2
      clear hk2 hg2
      go_wp2_with (go_at_call 44; fail)
      refine (flag_Raise f fb Hg.out.fl).mono ?_
      rintro e wh ⟨rfl, th', hh'⟩
      have Hh := Lib.hid (Hg.out.set th' hh')
      clear th' hh'
      go_wp2_with (go_at_call 44; fail)
      refine (flag_Raise_nil wh).mono ?_
      rintro e wi ⟨rfl, rfl⟩
      go_wp2_with (go_at_call 41; fail)
      refine (flag_Up f true Hh.out.fl).mono ?_
      rintro e wi ⟨rfl, rfl⟩
      go_wp2_with (go_at_call 45; fail)
      refine (flag_Lower f true Hh.out.fl).mono ?_
      rintro e wj ⟨rfl, tj, hj'⟩
      have Hj := Lib.hid (Hh.out.set tj hj')
      clear tj hj'
      go_wp2_with (go_at_call 41; fail)
      refine (flag_Up f false Hj.out.fl).mono ?_
      rintro e wi ⟨rfl, rfl⟩
      go_wp2_with (go_at_call 45; fail)
      refine (flag_Lower f false Hj.out.fl).mono ?_
      rintro e wk ⟨rfl, tk, hk'⟩
      have Hk := Lib.hid (Hj.out.set tk hk')
      clear tk hk'
      go_wp2_with (go_at_call 41; fail)
      refine (flag_Up_nil wk).mono ?_
      rintro e wi ⟨rfl, rfl⟩
      go_wp2_with (go_at_call 45; fail)
      refine (flag_Lower_nil wk).mono ?_
      rintro e wi ⟨rfl, rfl⟩
      go_wp2
      go_ret
      exact ⟨by first | rfl | trivial, (H3.out.1.trans Hk.out.tb).below⟩
    · subst h3
      have hx1 : ¬ ((0 : Int) ≤ most) := by omega
      have hx2 : ¬ ((0 : Int) < most) := by omega
      rw [decide_eq_true rfl]
      go_wp2_with (go_at_call 29; fail)
      refine (note_New_no2 A.h p (pt f) w10).mono ?_
      rintro e wa ⟨rfl, rfl⟩
      go_wp2_with (go_at_call 29; fail)
      refine (note_New_no0 (pt p) (pt q) (pt f) w10).mono ?_
      rintro e wa ⟨rfl, rfl⟩
      go_wp2_with (go_at_call 29; fail)
      refine (note_New_no1 A.h (pt q) (pt f) w10).mono ?_
      rintro e wa ⟨rfl, rfl⟩
      go_wp2_with (go_at_call 29; fail)
      refine (note_New_no3 A.h p q w10).mono ?_
      rintro e wa ⟨rfl, rfl⟩
      go_wp2_with (go_at_call 38; fail)
      refine (note_Once .nilFunc (.inl rfl) w10).mono ?_
      rintro e wa ⟨ba, rfl, -, ta, oa⟩
      have Ha := Lib.hid (And.intro (HF.out.old ta) oa)
      clear ta oa
      go_wp2_with (go_at_call 32; fail)
      refine (note_Note_nil 1 1 _ (.inr ⟨_, _, rfl⟩) wa).mono ?_
      rintro e wb ⟨rfl, tb⟩
      have Hb := Lib.hid (And.intro (Ha.out.1.old tb) (blk_touch Ha.out.2 tb (fun x => x)))
      clear tb
      go_wp2_with (go_at_call 31; fail)
      refine (note_Run (I := fun w' => FlI W1 f fb w') (Q := fun _ => True) 1 5 _ (does_once Hb.out.2 Hb.out.1 trivial) (by decide)).mono ?_
      rintro e wc ⟨k1, rfl, hk1, hc1, -⟩
      obtain rfl : k1 = 1 := by omega
      have Hc := Lib.hid hc1
      clear hk1 hc1
      go_wp2_with (go_at_call 38; fail)
      refine (note_Once .nilFunc (.inl rfl) wc).mono ?_
      rintro e wd ⟨bd, rfl, -, td, od⟩
      have Hd := Lib.hid (And.intro (Hc.out.old td) od)
      clear td od
      go_wp2_with (go_at_call 43; fail)
      refine (note_Pour_nil 1 _ (.inr ⟨_, _, rfl⟩) wd).mono ?_
      rintro e we ⟨rfl, te⟩
      have He := Lib.hid (And.intro (Hd.out.1.old te) (blk_touch Hd.out.2 te (fun x => x)))
      clear te
      go_wp2_with (go_at_call 31; fail)
      refine (note_Run (I := fun w' => FlI W1 f fb w') (Q := fun _ => True) 1 5 _ (does_once He.out.2 He.out.1 trivial) (by decide)).mono ?_
      rintro e wg ⟨k2, rfl, hk2, hg2, -⟩
      obtain rfl : k2 = 1 := by omega
      have Hg := Lib.hid hg2
      clear hk2 hg2
      go_wp2_with (go_at_call 44; fail)
      refine (flag_Raise f fb Hg.out.fl).mono ?_
      rintro e wh ⟨rfl, th', hh'⟩
      have Hh := Lib.hid (Hg.out.set th' hh')
      clear th' hh'
      go_wp2_with (go_at_call 44; fail)
      refine (flag_Raise_nil wh).mono ?_
      rintro e wi ⟨rfl, rfl⟩
      go_wp2_with (go_at_call 41; fail)
      refine (flag_Up f true Hh.out.fl).mono ?_
      rintro e wi ⟨rfl, rfl⟩
      go_wp2_with (go_at_call 45; fail)
      refine (flag_Lower f true Hh.out.fl).mono ?_
      rintro e wj ⟨rfl, tj, hj'⟩
      have Hj := Lib.hid (Hh.out.set tj hj')
      clear tj hj'
      go_wp2_with (go_at_call 41; fail)
      refine (flag_Up f false Hj.out.fl).mono ?_
      rintro e wi ⟨rfl, rfl⟩
      go_wp2_with (go_at_call 45; fail)
      refine (flag_Lower f false Hj.out.fl).mono ?_
      rintro e wk ⟨rfl, tk, hk'⟩
      have Hk := Lib.hid (Hj.out.set tk hk')
      clear tk hk'
      go_wp2_with (go_at_call 41; fail)
      refine (flag_Up_nil wk).mono ?_
      rintro e wi ⟨rfl, rfl⟩
      go_wp2_with (go_at_call 45; fail)
      refine (flag_Lower_nil wk).mono ?_
      rintro e wi ⟨rfl, rfl⟩
      go_wp2
      go_ret
      exact ⟨by first | rfl | trivial, (H3.out.1.trans Hk.out.tb).below⟩
    · have hx0 : most < (K : Int) := by omega
      have hx1 : ¬ ((K : Int) ≤ most) := by omega
      have hx2 : ((K : Int) == 0) = false := by simp; omega
      have hx3 : ¬ ((0 : Int) < most) := by omega
      rw [decide_eq_false (show ¬ 0 = K by omega)]
      go_wp2_with (go_at_call 29; fail)
      refine (note_New_no2 A.h p (pt f) w10).mono ?_
      rintro e wa ⟨rfl, rfl⟩
      go_wp2_with (go_at_call 29; fail)
      refine (note_New_no0 (pt p) (pt q) (pt f) w10).mono ?_
      rintro e wa ⟨rfl, rfl⟩
      go_wp2_with (go_at_call 29; fail)
      refine (note_New_no1 A.h (pt q) (pt f) w10).mono ?_
      rintro e wa ⟨rfl, rfl⟩
      go_wp2_with (go_at_call 29; fail)
      refine (note_New_no3 A.h p q w10).mono ?_
      rintro e wa ⟨rfl, rfl⟩
      go_wp2_with (go_at_call 38; fail)
      refine (note_Once .nilFunc (.inl rfl) w10).mono ?_
      rintro e wa ⟨ba, rfl, -, ta, oa⟩
      have Ha := Lib.hid (And.intro (HF.out.old ta) oa)
      clear ta oa
      go_wp2_with (go_at_call 32; fail)
      refine (note_Note_nil 1 1 _ (.inr ⟨_, _, rfl⟩) wa).mono ?_
      rintro e wb ⟨rfl, tb⟩
      have Hb := Lib.hid (And.intro (Ha.out.1.old tb) (blk_touch Ha.out.2 tb (fun x => x)))
      clear tb
      go_wp2_with (go_at_call 31; fail)
      refine (note_Run (I := fun w' => FlI W1 f fb w') (Q := fun _ => True) 1 5 _ (does_once Hb.out.2 Hb.out.1 trivial) (by decide)).mono ?_
      rintro e wc ⟨k1, rfl, hk1, hc1, -⟩
      obtain rfl : k1 = 1 := by omega
      have Hc := Lib.hid hc1
      clear hk1 hc1
      go_wp2_with (go_at_call 38; fail)
      refine (note_Once .nilFunc (.inl rfl) wc).mono ?_
      rintro e wd ⟨bd, rfl, -, td, od⟩
      have Hd := Lib.hid (And.intro (Hc.out.old td) od)
      clear td od
      go_wp2_with (go_at_call 43; fail)
      refine (note_Pour_nil 1 _ (.inr ⟨_, _, rfl⟩) wd).mono ?_
      rintro e we ⟨rfl, te⟩
      have He := Lib.hid (And.intro (Hd.out.1.old te) (blk_touch Hd.out.2 te (fun x => x)))
      clear te
      go_wp2_with (go_at_call 31; fail)
      refine (note_Run (I := fun w' => FlI W1 f fb w') (Q := fun _ => True) 1 5 _ (does_once He.out.2 He.out.1 trivial) (by decide)).mono ?_
      rintro e wg ⟨k2, rfl, hk2, hg2, -⟩
      obtain rfl : k2 = 1 := by omega
      have Hg := Lib.hid hg2
      clear hk2 hg2
      go_wp2_with (go_at_call 44; fail)
      refine (flag_Raise f fb Hg.out.fl).mono ?_
      rintro e wh ⟨rfl, th', hh'⟩
      have Hh := Lib.hid (Hg.out.set th' hh')
      clear th' hh'
      go_wp2_with (go_at_call 44; fail)
      refine (flag_Raise_nil wh).mono ?_
      rintro e wi ⟨rfl, rfl⟩
      go_wp2_with (go_at_call 41; fail)
      refine (flag_Up f true Hh.out.fl).mono ?_
      rintro e wi ⟨rfl, rfl⟩
      go_wp2_with (go_at_call 45; fail)
      refine (flag_Lower f true Hh.out.fl).mono ?_
      rintro e wj ⟨rfl, tj, hj'⟩
      have Hj := Lib.hid (Hh.out.set tj hj')
      clear tj hj'
      go_wp2_with (go_at_call 41; fail)
      refine (flag_Up f false Hj.out.fl).mono ?_
      rintro e wi ⟨rfl, rfl⟩
      go_wp2_with (go_at_call 45; fail)
      refine (flag_Lower f false Hj.out.fl).mono ?_
      rintro e wk ⟨rfl, tk, hk'⟩
      have Hk := Lib.hid (Hj.out.set tk hk')
      clear tk hk'
      go_wp2_with (go_at_call 41; fail)
      refine (flag_Up_nil wk).mono ?_
      rintro e wi ⟨rfl, rfl⟩
      go_wp2_with (go_at_call 45; fail)
      refine (flag_Lower_nil wk).mono ?_
      rintro e wi ⟨rfl, rfl⟩
      go_wp2
      go_ret
      exact ⟨by first | rfl | trivial, (H3.out.1.trans Hk.out.tb).below⟩
theorem law_NoteRuns {w : World} (a0 : Int) (_ : (Lit.int .i64 a0).wf = true) (a1 : Int) (_ : (Lit.int .i64 a1).wf = true) (a2 : Int) (_ : (Lit.int .i64 a2).wf = true) (a3 : Int) (_ : (Lit.int .i64 a3).wf = true) (a4 : Int) (_ : (Lit.int .i64 a4).wf = true) (a5 : Int) (_ : (Lit.int .i64 a5).wf = true) (a6 : Int) (_ : (Lit.int .i64 a6).wf = true) (th : Value) (r1 : List (List Value)) (s1 : IsSlice w th [some .u8, some .u8, none] r1) (bf : Value) (r2 : List (List Value)) (s2 : IsSlice w bf [some .u8] r2) (bx : Value) (r3 : List (List Value)) (s3 : IsSlice w bx [some .u8] r3) (rm : Int) (hq0 : (Lit.int .u8 rm).wf = true) (up : Bool) (most : Int) (hm : (Lit.int .i64 most).wf = true) (hTab : Tab w) (hLim : Limits w) (hS : Sizes w) :
    Calls Tryz.prog 8 #[CsV ⟨a0, a1, a2, a3, a4, a5, a6⟩ th bf bx rm up, .int .i64 most] w fun e w' => e = .returned (.bool true) ∧ Below w.heap.size w w' :=
  nruns a0 a1 a2 a3 a4 a5 a6 th r1 s1 bf r2 s2 bx r3 s3 rm hq0 up most hm hTab hLim hS
end Go.Proofs.YtnobempbcdkoaaaGreatDoor
