/- HeapCells, walked. Conditions: the tables of limits and of sizes read as laid. -/
import Derived.Test.YtflhjbmoncbomaaDoorLaws11
import Derived.Test.YtflhjbmoncbomaaDoorHpD
import Derived.Test.YtflhjbmoncbomaaDoorHpA
import Derived.Test.YtflhjbmoncbomaaDoorLittle
import Derived.Test.YtflhjbmoncbomaaDoorSeven
namespace Go.Proofs.YtflhjbmoncbomaaDoor
open Go.RowKit

variable {W w w' : World} {A : HA} {c : Cf} {S : HS} {H : Nat → List Nat}
theorem hp_SetCell (i v : Int) (h : HpI W w A c S H) :
    Calls Tryd.prog 9 #[.pointer (some ⟨A.h, 0, none⟩), .int .i64 i, .int .i64 v] w fun e w' => e = .returned (.int .i64 (S.setE i v)) ∧ Touch (HT A) w w' ∧ HpI W w' A c (S.setS i v) H :=
  (heap_SetCell i v h.at').mono fun _ _ ⟨g1, g2, g3⟩ => ⟨g1, g2, g3, by
    unfold HS.setS
    split
    · exact h.inv.same S.K _
    · exact h.inv, h.laid⟩
theorem HS.set_ok {i v : Int} (h : 0 ≤ i ∧ i < S.x.length) (hv : 0 ≤ v ∧ v ≤ S.s.ws.length) : S.setE i v = 0 ∧ S.setS i v = { S with x := S.x.set i.toNat v } := by
  have e : S.setE i v = 0 := by unfold HS.setE; rw [if_pos (show S.celB i from h), if_pos hv]
  exact ⟨e, by unfold HS.setS; rw [if_pos e]⟩
theorem HS.set_no {i v : Int} (h : ¬ ((0 ≤ i ∧ i < S.x.length) ∧ (0 ≤ v ∧ v ≤ S.s.ws.length))) : (S.setE i v = 9 ∨ S.setE i v = 4) ∧ S.setS i v = S := by
  have e : S.setE i v = 9 ∨ S.setE i v = 4 := by
    unfold HS.setE
    by_cases hi : S.celB i
    · rw [if_pos hi, if_neg (fun hv => h ⟨hi, hv⟩)]
      exact .inr rfl
    · rw [if_neg hi]
      exact .inl rfl
  refine ⟨e, ?_⟩
  unfold HS.setS
  rw [if_neg (by rcases e with e | e <;> rw [e] <;> decide)]
/-- Between two rounds. -/
structure HcI (W wr : World) (A : HA) (c : Cf) (q n z : Nat) (xs : List Int) (S : HS) (H : Nat → List Nat) : Prop where
  hp : HpI W wr A c S H
  x : S.x = xs
  xl : xs.length = n
  z : S.s.ws.length = z
  row : RowAt wr q 3 n (xs.map (.int .i64))
  nq : q ∉ A.all
theorem HcI.old {wr : World} {q n z : Nat} {xs : List Int} (h : HcI W wr A c q n z xs S H) (ht : Touch nob wr w') : HcI W w' A c q n z xs S H := ⟨h.hp.old ht, h.x, h.xl, h.z, h.row.touch ht (fun x => x), h.nq⟩
theorem HcI.touch {wr : World} {q n z : Nat} {xs : List Int} {S' : HS} {H' : Nat → List Nat} (h : HcI W wr A c q n z xs S H) (ht : Touch (HT A) wr w') (h' : HpI W w' A c S' H') (hx : S'.x = S.x) (hz : S'.s.ws.length = S.s.ws.length) : HcI W w' A c q n z xs S' H' := ⟨h', hx.trans h.x, h.xl, hz.trans h.z, h.row.touch ht h.nq, h.nq⟩
theorem HcI.set {wr : World} {q n z : Nat} {xs : List Int} (hr : RowAt wr q 3 n (xs.map (.int .i64))) (hxl : xs.length = n) (hz : S.s.ws.length = z) (hnq : q ∉ A.all) (m : Nat) (y : Int) (hq : W.heap.size ≤ q) (h' : HpI W wr A c { S with x := xs.set m y } H) : HcI W (wr.setCell ⟨q, m, none⟩ (.int .i64 y)) A c q n z (xs.set m y) { S with x := xs.set m y } H := by
  refine ⟨h'.touch (T := fun b => b = q) (h'.at'.base.setCell (.inr hq) _) (Touch.setCell (S := fun b => b = q) (Touch.refl _ _) (.inl rfl) _) (fun b hb e => hnq (e ▸ hb)), rfl, by rw [List.length_set]; exact hxl, hz, ?_, hnq⟩
  rw [List.map_set]
  exact hr.set m _
/-- Behind a making. -/
theorem HcI.made {wr : World} {q n z : Nat} {xs : List Int} (f col : Int) (h : HcI W wr A c q n z xs S H) :
    Calls Tryd.prog 10 #[.pointer (some ⟨A.h, 0, none⟩), .int .i64 f, .int .i64 col] wr fun e w' => ∃ x y, e = .returned (.tuple #[.int .i64 x, .int .i64 y]) ∧ ∃ S H, HcI W w' A c q n z xs S H :=
  (hp_Make f col h.hp).mono fun _ _ ⟨g1, g2, g3⟩ => ⟨_, _, g1, _, _, h.touch g2 g3 (by
    have hn : (A.L.n : Int) = c.c0 := by
      obtain ⟨ct, hb⟩ := h.hp.at'.ls.tb
      exact hb.hn
    exact (mak_ev h.hp.inv hn).x) (by
    have hn : (A.L.n : Int) = c.c0 := by
      obtain ⟨ct, hb⟩ := h.hp.at'.ls.tb
      exact hb.hn
    exact (mak_ev h.hp.inv hn).len)⟩
theorem HcI.at {wr : World} {q n z : Nat} {xs : List Int} (k : Nat) (hk : k < n) (h : HcI W wr A c q n z xs S H) :
    Calls Tryd.prog 11 #[.pointer (some ⟨A.h, 0, none⟩), .int .i64 k] wr fun e w' => e = .returned (.tuple #[.int .i64 (xs.getD k 0), .int .i64 0]) ∧ wr = w' := by
  have := heap_Cell_ok k h.hp.at' (by rw [h.x, h.xl]; exact hk)
  rwa [h.x] at this
set_option maxRecDepth 10000 in
set_option maxHeartbeats 4000000 in
theorem law_HeapCells {w : World} (a0 : Int) (_ : (Lit.int .i64 a0).wf = true) (a1 : Int) (_ : (Lit.int .i64 a1).wf = true) (a2 : Int) (_ : (Lit.int .i64 a2).wf = true) (a3 : Int) (_ : (Lit.int .i64 a3).wf = true) (a4 : Int) (_ : (Lit.int .i64 a4).wf = true) (a5 : Int) (_ : (Lit.int .i64 a5).wf = true) (a6 : Int) (_ : (Lit.int .i64 a6).wf = true) (l : Value) (rows : List (List Value)) (hl : IsSlice w l [some .i64, some .i64] rows) (hLim : Limits w) (hS : Sizes w) :
    Calls Tryd.prog 3 #[CfgV a0 a1 a2 a3 a4 a5 a6, l] w fun e w' => e = .returned (.bool true) ∧ Below w.heap.size w w' := by
  obtain ⟨N, hI, -⟩ := rows_of_slice hl (by simp)
  obtain ⟨ao, cap, rfl, hI⟩ := hI
  have HI := Lib.hid hI
  have HL := Lib.hid (Laid.mk hLim hS)
  clear hLim hS hl hI
  obtain ⟨c, hc⟩ : ∃ c, little ⟨a0, a1, a2, a3, a4, a5, a6⟩ = c := ⟨_, rfl⟩
  have hok : c.ok = true := by rw [← hc]; exact little_ok _
  have hc4 : 0 ≤ c.c4 ∧ c.c4 ≤ 3 := by rw [← hc]; simp only [little]; omega
  have hlit := ref02_Little ⟨a0, a1, a2, a3, a4, a5, a6⟩
  rw [hc] at hlit
  have HC := Lib.hid (And.intro hok (And.intro hlit hc4))
  clear hok hlit hc hc4
  go_enter Tryd.func3, Tryd.ntmps3
  go_wp2_with fail
  obtain ⟨W, hW⟩ : ∃ W, W = w.alloc (Obj.cells (CfgRow a0 a1 a2 a3 a4 a5 a6) 23) := ⟨_, rfl⟩
  have hT : Touch nob w W := by rw [hW]; (repeat (first | with_reducible exact Touch.refl _ _ | with_reducible assumption | with_reducible apply Touch.alloc | with_reducible apply Touch.drewN | with_reducible apply Touch.drew | with_reducible refine Touch.setCell ?_ (.inr (by first | omega | (simp; done) | (simp; omega))) _))
  have hbx : W.heap[w.heap.size]? = some (Obj.cells (CfgRow a0 a1 a2 a3 a4 a5 a6) 23) := by rw [hW]; exact World.alloc_heap_new w _
  obtain ⟨b0, hb0⟩ : ∃ b, b = w.heap.size := ⟨_, rfl⟩
  rw [← hW, ← hb0]
  rw [← hb0] at hbx
  refine (HC.out.2.1 W).mono ?_
  rintro e w1 ⟨rfl, hT1⟩
  have hb1 := blk_touch hbx hT1 (fun x => x)
  obtain ⟨y0, y1, y2, y3, y4, y5, y6⟩ := cfg_box hb1 (Touch.refl _ _)
  have f0 : ∀ j, w1.frozen? ⟨b0, j, none⟩ = false := fun j => by simp [World.frozen?, hb1]
  have g0 := f0 0; have g1 := f0 1; have g2 := f0 2; have g3 := f0 3; have g4 := f0 4; have g5 := f0 5; have g6 := f0 6
  obtain ⟨W3, hW3⟩ : ∃ W3, W3 = set7 w1 b0 (.int .i64 c.c0) (.int .i64 c.c1) (.int .i64 c.c2) (.int .i64 c.c3) (.int .i64 c.c4) (.int .i64 c.c5) (.int .i64 c.c6) := ⟨_, rfl⟩
  have hc3 : W3.heap[b0]? = some (Obj.cells (CfgRow c.c0 c.c1 c.c2 c.c3 c.c4 c.c5 c.c6) 23) := by rw [hW3]; exact set7_at _ _ _ _ _ _ _ _ hb1
  have hT3 : Touch nob w W3 := by rw [hW3]; exact set7_touch _ _ _ _ _ _ _ (by omega) (hT.trans hT1)
  have H3 := Lib.hid (And.intro hT3 hc3)
  clear hT hbx hT1 hb1 f0 hc3 hT3 hW hb0
  by_cases h60 : N ≤ 60
  · go_wp2_with (go_at_call 7; fail)
    simp only [set7] at hW3
    rw [← hW3]
    clear hW3 y0 y1 y2 y3 y4 y5 y6 g0 g1 g2 g3 g4 g5 g6
    refine (law11_awake W3 (HL.out.old H3.out.1)).mono ?_
    rintro e w4 ⟨rfl, hT4⟩
    obtain ⟨y0, y1, y2, y3, y4, y5, y6⟩ := cfg_box H3.out.2 hT4
    have HT4 := Lib.hid (And.intro (H3.out.1.trans hT4) (blk_touch H3.out.2 hT4 (fun x => x)))
    clear hT4
    go_wp2_with (go_at_call 8; fail)
    refine (heap_New_ok c w4 (HL.out.old HT4.out.1) HC.out.1).mono ?_
    rintro e w5 ⟨A, z, n, rfl, hz, hbn, hn, h5⟩
    have hz1 : z ≤ 1048576 := by have := HS.len_le h5.at'; rwa [List.length_replicate] at this
    have hn3 : n ≤ 3 := by have := HC.out.2.2; omega
    obtain ⟨z0, z1, z2, z3, z4, z5, z6⟩ := cfg_box HT4.out.2 h5.at'.base
    rw [← hn] at z4
    have H5 := Lib.hid (And.intro h5 (And.intro hz (And.intro hbn hn)))
    have hzz : c.c0 * c.c1 = (z : Int) := hz.symm
    clear y0 y1 y2 y3 y4 y5 y6 z2 z3 z5 z6 h5 hz hbn hn
    obtain ⟨i0, hi, hz0, hzs, hzb⟩ := info_parts info_int2
    go_wp2_with (at_make; refine wpList_make_full _ rfl _ _ 31 rfl w5.heap.size 3 i0 (.int .i64 0) 1 Tryd.underlying31 hi hz0 hzs .i64 .i64 _ _ n rfl rfl (by omega) (by omega) (by rw [hzb]; omega) (by unfold maxLen; omega) (Nat.le_refl _) ?_; intro w6 hown hgrow; have HX := Lib.hid (And.intro hown hgrow); have hT6 : Touch nob w5 w6 := (Touch.refl nob w5).grown hgrow (fun _ h => by cases h); have z0' := (hT6.cell (cell_lt z0) (fun x => x)).trans z0; have z1' := (hT6.cell (cell_lt z1) (fun x => x)).trans z1; have HT6 := Lib.hid hT6; clear hown hgrow hT6 z0 z1 z4)
    have h6 : Hid (∃ S H, HcI w4 w6 A c w5.heap.size n z (List.replicate n 0) S H) := by
      obtain ⟨hown, hgrow⟩ := HX.out
      rw [made_ints] at hown
      have hk : kint [] n = List.replicate n 0 := by unfold kint; simp
      rw [hk] at hown
      exact ⟨_, _, H5.out.1.old HT6.out, rfl, List.length_replicate, List.length_replicate, (RowAt.of_owns hown).1, H5.out.1.at'.aside (Nat.le_refl _)⟩
    obtain ⟨q, hq⟩ : ∃ q, q = w5.heap.size := ⟨_, rfl⟩
    rw [← hq]
    rw [← hq] at h6
    have HQ : Hid (w4.heap.size ≤ q) := by show _ ≤ _; rw [hq]; exact H5.out.1.at'.base.size
    clear hq HX HT6 hzz z0' z1' i0 hi hz0 hzs hzb
    go_loopw [9] (fun i wr => ∃ j : Nat, j ≤ N ∧ i = .int .i64 j ∧ Hid (∃ xs S H, HcI w4 wr A c q n z xs S H)) (fun i _ => N - (intOf i).toNat)
    case atStart => exact ⟨0, Nat.zero_le _, rfl, by obtain ⟨S, H, h⟩ := h6.out; exact ⟨_, S, H, h⟩⟩
    case round =>
      obtain ⟨j, hj, rfl, HR⟩ := hrel
      clear h6
      obtain ⟨xs, S, H, hr⟩ := HR.out
      have HP := Lib.hid hr
      clear HR
      by_cases hlt : j < N
      · obtain ⟨b, o, hao, hcap, hmx, hcells⟩ := HI.out.resolve_left (by omega)
        subst hao
        obtain ⟨r, hfit, hcx⟩ := hcells j hlt
        obtain ⟨x, us1, rfl, _, hf1⟩ := fits_int hfit
        obtain ⟨y, us2, rfl, _, hf2⟩ := fits_int hf1
        obtain rfl := fits_nil hf2
        have y0 := hcx 0 (by simp)
        have y1 := hcx 1 (by simp)
        simp only [List.length_cons, List.length_nil, Nat.zero_add, Nat.reduceAdd, Nat.add_zero, List.getElem?_cons_zero, List.getElem?_cons_succ, ← Nat.add_assoc] at y0 y1
        have hTr := HT4.out.1.trans hr.hp.at'.base
        have c0 := (hTr.cell (cell_lt y0) (fun x => x)).trans y0
        have c1 := (hTr.cell (cell_lt y1) (fun x => x)).trans y1
        have hb : (j : Int) < (N : Int) := by omega
        clear hcx hcells y0 y1 hfit hf1 hf2 hr hTr
        go_wp2_with fail
        go_region
        obtain ⟨W7, hW7⟩ : ∃ W7, W7 = wr.drew := ⟨_, rfl⟩
        rw [← hW7]
        have HP7 : Hid (HcI w4 W7 A c q n z xs S H) := HP.out.old (by rw [hW7]; exact Touch.drew (Touch.refl _ _))
        clear c0 c1 hW7 HP
        have hsc := hp_SetCell x y HP7.out.hp
        have hcases : (0 ≤ x ∧ x < n ∧ 0 ≤ y ∧ y ≤ z) ∨ ((x < 0 ∨ (0 ≤ x ∧ ¬ x < n)) ∨ (0 ≤ x ∧ x < n ∧ (y < 0 ∨ (0 ≤ y ∧ ¬ y ≤ z)))) := by omega
        rcases hcases with ⟨hx0, hx1, hy0, hy1⟩ | hno
        · obtain ⟨m, rfl⟩ := Int.eq_ofNat_of_zero_le hx0
          obtain ⟨e1, e2⟩ := HS.set_ok (S := S) (i := (m : Int)) (v := y) ⟨hx0, by rw [HP7.out.x, HP7.out.xl]; exact hx1⟩ (by rw [HP7.out.z]; exact ⟨hy0, hy1⟩)
          rw [e1, e2, Int.toNat_natCast, HP7.out.x] at hsc
          have HSC := Lib.hid hsc
          have hmn : m < n := by omega
          clear hsc e1 e2
          go_wp2_with (go_at_call 9; fail)
          refine HSC.out.mono ?_
          rintro e w7 ⟨rfl, hT7, h7⟩
          obtain ⟨-, -, -, -, z4, -, -⟩ := cfg_box HT4.out.2 h7.at'.base
          rw [← H5.out.2.2.2] at z4
          have hrow := HP7.out.row.touch hT7 HP7.out.nq
          have cq := int_cell hrow (i := m) (by rw [HP7.out.xl]; exact hmn)
          have fq := hrow.free m
          have H7 : Hid (HcI w4 (w7.setCell ⟨q, m, none⟩ (.int .i64 y)) A c q n z (xs.set m y) _ H) := HcI.set hrow HP7.out.xl HP7.out.z HP7.out.nq m y HQ.out h7
          clear hT7 h7 hrow
          go_wp2_with (go_at_call 10; fail)
          obtain ⟨W8, hW8⟩ : ∃ W8, W8 = w7.setCell ⟨q, m, none⟩ (.int .i64 y) := ⟨_, rfl⟩
          rw [← hW8]
          obtain ⟨ys, S8, H8, hm8⟩ : ∃ ys S H, HcI w4 W8 A c q n z ys S H := by rw [hW8]; exact ⟨_, _, _, H7.out⟩
          have HM := Lib.hid hm8
          clear hm8 hW8 cq fq H7 HP7 z4
          refine (HcI.made (1 + (j : Int) % 3) ((j : Int) % 2) HM.out).mono ?_
          rintro e w9 ⟨r1, r2, rfl, S9, H9, h9⟩
          have H9' := Lib.hid h9
          clear h9 HM
          go_wp2_with fail
          go_loopw [13] (fun i wr => ∃ k : Nat, k ≤ n ∧ i = .int .i64 k ∧ Hid (∃ S H, HcI w4 wr A c q n z ys S H)) (fun i _ => n - (intOf i).toNat)
          case atStart => exact ⟨0, Nat.zero_le _, rfl, ⟨_, _, H9'.out⟩⟩
          case round =>
            obtain ⟨k, hk, rfl, HR⟩ := hrel
            clear H9'
            obtain ⟨S1, H1, hr1⟩ := HR.out
            have HP1 := Lib.hid hr1
            obtain ⟨-, -, -, -, z4, -, -⟩ := cfg_box HT4.out.2 hr1.hp.at'.base
            rw [← H5.out.2.2.2] at z4
            clear HR hr1
            by_cases hkn : k < n
            · have hkb : (k : Int) < (n : Int) := by omega
              have cq := int_cell HP1.out.row (i := k) (by rw [HP1.out.xl]; exact hkn)
              have hca := HcI.at k hkn HP1.out
              obtain ⟨v, hv⟩ : ∃ v, ys.getD k 0 = v := ⟨_, rfl⟩
              rw [hv] at cq hca
              have HCA := Lib.hid hca
              clear hca hv
              go_wp2_with (go_at_call 11; fail)
              refine HCA.out.mono ?_
              rintro e w' ⟨rfl, rfl⟩
              go_wp2
              go_roundw
              case rel => exact ⟨k + 1, by omega, by go_num, _, _, HP1.out⟩
              case measure => simp [intOf]; omega
            · obtain rfl : n = k := by omega
              clear hk hkn
              go_wp2
              go_roundw
              case rel => exact ⟨j + 1, by omega, by go_num, _, _, _, HP1.out⟩
              case measure => simp [intOf]; omega
        · obtain ⟨e1, e2⟩ := HS.set_no (S := S) (i := x) (v := y) (by rw [HP7.out.x, HP7.out.xl, HP7.out.z]; omega)
          obtain ⟨E, hE⟩ : ∃ E, S.setE x y = E := ⟨_, rfl⟩
          rw [hE, e2] at hsc
          rw [hE] at e1
          have hE0 : ¬ E = 0 := by omega
          have hEb : (E == 0) = false := by simpa using hE0
          have HSC := Lib.hid hsc
          clear hsc e1 e2 hE
          obtain ⟨-, -, -, -, z4, -, -⟩ := cfg_box HT4.out.2 HP7.out.hp.at'.base
          rw [← H5.out.2.2.2] at z4
          have HZ := Lib.hid (fun w7 (h : HpI w4 w7 A c S H) => (cfg_box HT4.out.2 h.at'.base).2.2.2.2.1)
          clear z4
          rcases hno with (hx | ⟨hx0, hx1⟩) | ⟨hx0, hx1, (hy | ⟨hy0, hy1⟩)⟩
          all_goals
            go_wp2_with (go_at_call 9; fail)
            refine HSC.out.mono ?_
            rintro e w7 ⟨rfl, hT7, h7⟩
            have z4 := HZ.out w7 h7
            rw [← H5.out.2.2.2] at z4
            have hm8 : HcI w4 w7 A c q n z xs S H := HP7.out.touch hT7 h7 rfl rfl
            clear hT7 h7
            go_wp2_with (go_at_call 10; fail)
            have HM := Lib.hid hm8
            clear hm8 HP7 z4
            refine (HcI.made (1 + (j : Int) % 3) ((j : Int) % 2) HM.out).mono ?_
            rintro e w9 ⟨r1, r2, rfl, S9, H9, h9⟩
            have H9' := Lib.hid h9
            clear h9 HM
            go_wp2_with fail
            go_loopw [13] (fun i wr => ∃ k : Nat, k ≤ n ∧ i = .int .i64 k ∧ Hid (∃ S H, HcI w4 wr A c q n z xs S H)) (fun i _ => n - (intOf i).toNat)
            case atStart => exact ⟨0, Nat.zero_le _, rfl, ⟨_, _, H9'.out⟩⟩
            case round =>
              obtain ⟨k, hk, rfl, HR⟩ := hrel
              clear H9'
              obtain ⟨S1, H1, hr1⟩ := HR.out
              have HP1 := Lib.hid hr1
              obtain ⟨-, -, -, -, z4, -, -⟩ := cfg_box HT4.out.2 hr1.hp.at'.base
              rw [← H5.out.2.2.2] at z4
              clear HR hr1
              by_cases hkn : k < n
              · have hkb : (k : Int) < (n : Int) := by omega
                have cq := int_cell HP1.out.row (i := k) (by rw [HP1.out.xl]; exact hkn)
                have hca := HcI.at k hkn HP1.out
                obtain ⟨v, hv⟩ : ∃ v, xs.getD k 0 = v := ⟨_, rfl⟩
                rw [hv] at cq hca
                have HCA := Lib.hid hca
                clear hca hv
                go_wp2_with (go_at_call 11; fail)
                refine HCA.out.mono ?_
                rintro e w' ⟨rfl, rfl⟩
                go_wp2
                go_roundw
                case rel => exact ⟨k + 1, by omega, by go_num, _, _, HP1.out⟩
                case measure => simp [intOf]; omega
              · obtain rfl : n = k := by omega
                clear hk hkn
                go_wp2
                go_roundw
                case rel => exact ⟨j + 1, by omega, by go_num, _, _, _, HP1.out⟩
                case measure => simp [intOf]; omega
      · obtain rfl : j = N := by omega
        have hb : ¬ (j : Int) < (j : Int) := by omega
        have HE := Lib.hid ((HT4.out.1.trans HP.out.hp.at'.base).below)
        clear hr HP hj hlt
        go_wp2
        go_ret
        exact ⟨rfl, HE.out⟩
  · have hlg : (N : Int) > 60 := by omega
    go_wp2_with (go_at_call 7; fail)
    simp only [set7] at hW3
    rw [← hW3]
    clear hW3 y0 y1 y2 y3 y4 y5 y6 g0 g1 g2 g3 g4 g5 g6
    refine (law11_awake W3 (HL.out.old H3.out.1)).mono ?_
    rintro e w4 ⟨rfl, hT4⟩
    have HE := Lib.hid ((H3.out.1.trans hT4).below)
    clear hT4
    go_wp2
    go_ret
    exact ⟨rfl, HE.out⟩
end Go.Proofs.YtflhjbmoncbomaaDoor
