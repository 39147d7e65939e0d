/- The law BlockSlots, walked. Conditions: the tables of limits and of sizes read as laid. -/
import Derived.Test.YtjbmpdibjfcafaaDoorLaws07
namespace Go.Proofs.YtjbmpdibjfcafaaDoor
open Go.RowKit

variable {w wr : World} {p q cap n : Nat} {c : Cf} {ks : List Int}
theorem slAt_facts {b i : Nat} (hc : c.ok = true) (hcl : ∀ j, j < ks.length → isCls (ks.getD j 0) = true) (hbn : (b : Int) < c.c0) (hi : i < (slAt c ks b).length) :
    b < ks.length ∧ atK ks b = ks.getD b 0 ∧ atB ks b = true ∧ owV c ks ((slAt c ks b).getD i 0) (ownB c ks ((slAt c ks b).getD i 0)) = .tuple #[.int .i64 b, .int .i64 (ks.getD b 0), .bool true] ∧
      (0 < i → (slAt c ks b).getD i 0 - (slAt c ks b).getD (i - 1) 0 = clsSize (ks.getD b 0)) ∧ 1 ≤ (slAt c ks b).getD i 0 ∧ (slAt c ks b).getD i 0 ≤ 1048576 := by
  have hb : b < ks.length := by
    rcases Nat.lt_or_ge b ks.length with h | h
    · exact h
    · unfold slAt at hi
      rw [if_neg (by omega)] at hi
      exact absurd hi (Nat.not_lt_zero _)
  have hk := hcl b hb
  have e : slAt c ks b = sl c (ks.getD b 0) b := by unfold slAt; rw [if_pos hb]
  rw [e] at hi ⊢
  have aK : atK ks b = ks.getD b 0 := by unfold atK; rw [if_pos ⟨by omega, by simpa using hb⟩]; rfl
  obtain ⟨K, hK⟩ : ∃ K, ks.getD b 0 = K := ⟨_, rfl⟩
  rw [hK] at hi hk aK ⊢
  clear e
  have hgd : ∀ j, j < (sl c K b).length → (sl c K b).getD j 0 = plA c.c1 K b j 0 := fun j hj => by
    have h1 := sl_eq hc hk (show (0 : Int) ≤ b by omega) hbn
    have h2 : j < (perBlock c.c1 K).toNat := by rw [h1] at hj; simpa using hj
    rw [h1]
    simp [List.getD_eq_getElem?_getD, h2]
  have hmem : (sl c (K) b).getD i 0 ∈ sl c (K) b := by
    rw [List.getD_eq_getElem?_getD, List.getElem?_eq_getElem hi]
    exact List.getElem_mem hi
  obtain ⟨o1, o2⟩ := own_of_mem hc hb (by rw [hK]; exact hk) hbn (by rw [hK]; exact hmem)
  refine ⟨hb, ?_, ?_, ?_, ?_, ?_⟩
  · exact aK
  · unfold atB; exact decide_eq_true ⟨by omega, by simpa using hb⟩
  · rw [o1]
    unfold owV
    rw [o2]
    show Value.tuple #[.int .i64 (b : Int), .int .i64 (ks.getD b 0), .bool true] = _
    rw [hK]
  · intro h0
    rw [hgd i hi, hgd (i - 1) (by omega)]
    obtain ⟨j, rfl⟩ : ∃ j, i = j + 1 := ⟨i - 1, by omega⟩
    unfold plA
    rw [show j + 1 - 1 = j by omega, show ((j + 1 : Nat) : Int) = (j : Int) + 1 by omega, Int.add_mul]
    omega
  · rw [hgd i hi]
    have h1 := sl_eq hc hk (show (0 : Int) ≤ b by omega) hbn
    have h2 : i < (perBlock c.c1 (K)).toNat := by rw [h1] at hi; simpa using hi
    have z0 := clsSize_lo hk
    obtain ⟨⟨m0, m1⟩, ⟨m2, m3⟩, m4⟩ := pl_bd (plOk_iff.2 ⟨hc, hk, ⟨(by omega : (0 : Int) ≤ b), hbn⟩, ⟨(by omega : (0 : Int) ≤ i), (by omega : (i : Int) < perBlock c.c1 (K))⟩, Int.le_refl 0, (by omega : (0 : Int) < clsSize (K))⟩)
    unfold plA
    omega
set_option maxRecDepth 20000 in
set_option maxHeartbeats 8000000 in
theorem law_BlockSlots {w : World} (a0 : Int) (_ : (Lit.int .i64 a0).wf = true) (a1 : Int) (_ : (Lit.int .i64 a1).wf = true) (a2 : Int) (_ : (Lit.int .i64 a2).wf = true) (a3 : Int) (_ : (Lit.int .i64 a3).wf = true) (a4 : Int) (_ : (Lit.int .i64 a4).wf = true) (a5 : Int) (_ : (Lit.int .i64 a5).wf = true) (a6 : Int) (_ : (Lit.int .i64 a6).wf = true) (l : Value) (rows : List (List Value)) (hl : IsSlice w l [some .u8] rows) (hLim : Limits w) (hS : Sizes w) :
    Calls Tryd.prog 9 #[CfgV a0 a1 a2 a3 a4 a5 a6, l] w fun e w' => e = .returned (.bool true) ∧ Below w.heap.size w w' := by
  obtain ⟨N, hI, hNr⟩ := rows_of_slice hl (by simp)
  clear hNr
  obtain ⟨ao, cap, rfl, hI⟩ := hI
  have HI := Lib.hid hI
  have HL := Lib.hid (Laid.mk hLim hS)
  clear hl hI hLim hS
  obtain ⟨n, hn, hn1, hn4⟩ := little_n a0 a1 a2 a3 a4 a5 a6
  obtain ⟨c, hc⟩ : ∃ c, little ⟨a0, a1, a2, a3, a4, a5, a6⟩ = c := ⟨_, rfl⟩
  have hok : c.ok = true := by rw [← hc]; exact little_ok _
  have hlit := ref02_Little ⟨a0, a1, a2, a3, a4, a5, a6⟩
  rw [hc] at hn hlit
  have HC := Lib.hid (And.intro hn (And.intro hok hlit))
  clear hn hok hlit hc
  go_enter Tryd.func9, Tryd.ntmps9
  go_wp2_with fail
  obtain ⟨W, hW⟩ : ∃ W, W = w.alloc (Obj.cells (CfgRow a0 a1 a2 a3 a4 a5 a6) 49) := ⟨_, rfl⟩
  have hT : Touch nob w W := by rw [hW]; repeat (first | with_reducible exact Touch.refl _ _ | with_reducible assumption | with_reducible apply Touch.alloc | with_reducible apply Touch.drewN | with_reducible apply Touch.drew | with_reducible refine Touch.setCell ?_ (.inr (by first | omega | (simp; done) | (simp; omega))) _)
  have hbx : W.heap[w.heap.size]? = some (Obj.cells (CfgRow a0 a1 a2 a3 a4 a5 a6) 49) := by rw [hW]; exact World.alloc_heap_new w _
  obtain ⟨b0, hb0⟩ : ∃ b, b = w.heap.size := ⟨_, rfl⟩
  rw [← hW, ← hb0]
  rw [← hb0] at hbx
  refine (HC.out.2.2 W).mono ?_
  rintro e w1 ⟨rfl, hT1⟩
  have hb1 := blk_touch hbx hT1 (fun x => x)
  obtain ⟨y0, y1, y2, y3, y4, y5, y6⟩ := cfg_box hb1 (Touch.refl _ _)
  have f0 : ∀ j, w1.frozen? ⟨b0, j, none⟩ = false := fun j => by simp [World.frozen?, hb1]
  have g0 := f0 0; have g1 := f0 1; have g2 := f0 2; have g3 := f0 3; have g4 := f0 4; have g5 := f0 5; have g6 := f0 6
  obtain ⟨W3, hW3⟩ : ∃ W3, W3 = set7 w1 b0 (.int .i64 c.c0) (.int .i64 c.c1) (.int .i64 c.c2) (.int .i64 c.c3) (.int .i64 c.c4) (.int .i64 c.c5) (.int .i64 c.c6) := ⟨_, rfl⟩
  have hc3 : W3.heap[b0]? = some (Obj.cells (CfgRow c.c0 c.c1 c.c2 c.c3 c.c4 c.c5 c.c6) 49) := by rw [hW3]; exact set7_at _ _ _ _ _ _ _ _ hb1
  have hT3 : Touch nob w W3 := by rw [hW3]; exact set7_touch _ _ _ _ _ _ _ (by omega) (hT.trans hT1)
  have H3 := Lib.hid (And.intro hT3 hc3)
  clear hT hbx hT1 hb1 f0 hc3 hT3 hW hb0
  by_cases h20 : N ≤ 20
  · go_wp2_with fail
    simp only [set7] at hW3
    rw [← hW3]
    clear hW3 y0 y1 y2 y3 y4 y5 y6 g0 g1 g2 g3 g4 g5 g6
    have HB := Lib.hid (fun wr (ht : Touch nob W3 wr) => show Touch nob w wr ∧ wr.cell? ⟨b0, 0, none⟩ = some (.int .i64 n) from ⟨H3.out.1.trans ht, by rw [HC.out.1]; exact (cfg_box H3.out.2 ht).1⟩)
    have HL3 := Lib.hid (HL.out.old H3.out.1)
    have awake : ∀ wr, Touch nob W3 wr → Calls Tryd.prog 37 #[] wr fun e w' => e = .returned (.bool true) ∧ Touch nob W3 w' := fun wr ht =>
      (law07_awake wr (HL3.out.old ht)).mono fun _ _ g => ⟨g.1, ht.trans g.2⟩
    have HW := Lib.hid awake
    clear awake
    have hT3' := Touch.refl nob W3
    refine (HW.out W3 (Touch.refl _ _)).mono ?_
    rintro e w4 ⟨rfl, hT4⟩
    have H4 := Lib.hid hT4
    clear hT4 hT3'
    obtain ⟨y0, y1, y2, y3, y4, y5, y6⟩ := cfg_box H3.out.2 H4.out
    go_wp2_with (go_at_call 32; fail)
    refine (oneb_New c W3 w4 H4.out HL3.out HC.out.2.1 n HC.out.1).mono ?_
    rintro e w5 ⟨p, q, rfl, h5⟩
    have H5 := Lib.hid h5
    clear h5 y0 y1 y2 y3 y4 y5 y6 H4
    go_wp2_with fail
    go_loopw [7] (fun i wr => ∃ k : Nat, ∃ ks : List Int, k ≤ N ∧ i = .int .i64 k ∧ Hid (OneB W3 wr p q n n c ks ∧ ks.length = min k n)) (fun i _ => N - (intOf i).toNat)
    case atStart => exact ⟨0, [], by omega, rfl, ⟨H5.out, by simp⟩⟩
    case round =>
      obtain ⟨k, ks, hk, rfl, H⟩ := hrel
      clear H5
      obtain ⟨_, c0⟩ := HB.out _ H.out.1.touch
      by_cases hlt : k < N
      · obtain ⟨b, o, hao, hcap, hmx, hcells⟩ := HI.out.resolve_left (by omega)
        subst hao
        obtain ⟨r, hfit, hcx⟩ := hcells k hlt
        obtain ⟨x, us1, rfl, hxw, hf1⟩ := fits_int hfit
        obtain rfl := fits_nil hf1
        have y0 := hcx 0 (by simp)
        simp only [List.length_cons, List.length_nil, Nat.zero_add, Nat.mul_one, Nat.add_zero, List.getElem?_cons_zero] at y0
        have z0 := ((H3.out.1.trans H.out.1.touch).cell (cell_lt y0) (fun x => x)).trans y0
        obtain ⟨x0, x1⟩ := bounds_u8 hxw
        obtain ⟨m, hm⟩ : ∃ m : Nat, x.tmod 4 = m := ⟨(x.tmod 4).toNat, by have := Int.tmod_nonneg 4 x0; omega⟩
        have hm4 : m < 4 := by have := Int.tmod_lt_of_pos x (show (0 : Int) < 4 by omega); omega
        have HM := Lib.hid (isCls_yes (k := (m : Int)) (by omega) (by omega))
        have hb : (k : Int) < (N : Int) := by omega
        clear hcx hcells y0 hfit hf1 hxw
        go_wp2_with (go_at_call 33; fail)
        by_cases hkn : k < n
        · have hlen : ks.length = k := by rw [H.out.2]; omega
          refine (oneb_Assign m H.out.1 HM.out (by omega)).mono ?_
          rintro e w6 ⟨rfl, h6⟩
          rw [hlen]
          have H6 : Hid (OneB W3 w6 p q n n c (ks ++ [(m : Int)]) ∧ (ks ++ [(m : Int)]).length = min (k + 1) n) := ⟨h6, by rw [List.length_append, hlen]; simp; omega⟩
          obtain ⟨_, c1⟩ := HB.out _ h6.touch
          have hkni : (k : Int) < (n : Int) := by omega
          clear h6 hlen c0 z0
          go_wp2
          go_roundw
          case rel => exact ⟨k + 1, _, by omega, by go_num, H6⟩
          case measure => simp [intOf]; omega
        · have hlen : ks.length = n := by rw [H.out.2]; omega
          refine (blk_Assign_full m H.out.1.blk HM.out hlen).mono ?_
          rintro e w6 ⟨rfl, hT6⟩
          have H6 : Hid (OneB W3 w6 p q n n c ks ∧ ks.length = min (k + 1) n) := ⟨H.out.1.step hT6, by rw [hlen]; omega⟩
          obtain ⟨_, c1⟩ := HB.out _ H6.out.1.touch
          have hkni : (n : Int) ≤ (k : Int) := by omega
          clear hT6 hlen c0 z0
          go_wp2
          go_roundw
          case rel => exact ⟨k + 1, _, by omega, by go_num, H6⟩
          case measure => simp [intOf]; omega
      · obtain rfl : k = N := by omega
        go_wp2_with fail
        go_loopw [10, 11] (fun nv i wr => ∃ b : Nat, b ≤ n ∧ i = .int .i64 b ∧ nv = .int .i64 ((allSl c ks b).length : Nat) ∧ Hid (OneB W3 wr p q n n c ks)) (fun _ i _ => n - (intOf i).toNat)
        case atStart => exact ⟨0, by omega, rfl, rfl, H.out.1⟩
        case round =>
          obtain ⟨b, hb, rfl, rfl, HO⟩ := hrel
          have HKS := Lib.hid H.out.2
          clear H c0
          obtain ⟨_, c0⟩ := HB.out _ HO.out.touch
          by_cases hbn : b < n
          · have hbi : (b : Int) < (n : Int) := by omega
            go_wp2_with (go_at_call 40; fail)
            refine (blk_Slots b HO.out.blk (HL3.out.old HO.out.touch).lim (HL3.out.old HO.out.touch).siz).mono ?_
            rintro e w7 ⟨v7, rfl, hT7, hI7, _⟩
            obtain ⟨ao7, cap7, hv7⟩ := hI7.shape
            have HF := Lib.hid (fun i hi => slAt_facts (ks := ks) (b := b) (i := i) HC.out.2.1 HO.out.blk.cls (by rw [← HC.out.1]; exact hbi) hi)
            have HAL := Lib.hid (show (allSl c ks (b + 1)).length = (allSl c ks b).length + (slAt c ks b).length by rw [← List.length_append]; rfl)
            have hAb := allSl_le (c := c) (ks := ks) b
            have hLb := slAt_le (c := c) (ks := ks) (m := b)
            obtain ⟨L, hL⟩ : ∃ L, slAt c ks b = L := ⟨_, rfl⟩
            rw [hL] at hI7 hv7 HF HAL hLb
            obtain ⟨z, hz⟩ : ∃ z, L.length = z := ⟨_, rfl⟩
            rw [hz] at hv7 HAL hLb
            subst hv7
            have H7 := Lib.hid (And.intro (HO.out.step hT7) (And.intro hI7 hz))
            clear hT7 hI7 hz hL HO c0
            go_wp2_with (go_at_call 41; fail)
            refine (blk_Class b H7.out.1.blk).mono ?_
            rintro e w8 ⟨rfl, rfl⟩
            obtain ⟨K, hK⟩ : ∃ K, atK ks b = K := ⟨_, rfl⟩
            obtain ⟨G, hG⟩ : ∃ G, atB ks b = G := ⟨_, rfl⟩
            rw [hK, hG] at HF ⊢
            clear hK hG
            go_wp2_with fail
            go_loopw [15] (fun i wr => ∃ j : Nat, j ≤ z ∧ i = .int .i64 j ∧ Hid (OneB W3 wr p q n n c ks ∧ IntsIn wr (.slice ao7 z cap7) L)) (fun i _ => z - (intOf i).toNat)
            case atStart => exact ⟨0, by omega, rfl, H7.out.1, H7.out.2.1⟩
            case round =>
              obtain ⟨j, hj, rfl, H⟩ := hrel
              have HZ := Lib.hid H7.out.2.2
              clear H7
              obtain ⟨_, c0⟩ := HB.out _ H.out.1.touch
              by_cases hjz : j < z
              · have hji : (j : Int) < (z : Int) := by omega
                obtain ⟨b7, o7, cp7, hv, hcap, hcj⟩ := H.out.2.at (k := j) (by rw [HZ.out]; exact hjz)
                simp only [Value.slice.injEq] at hv
                obtain ⟨rfl, -, rfl⟩ := hv
                rw [HZ.out] at hcap
                obtain ⟨-, eK, eG, eO, eD, eL, eU⟩ := HF.out j (by rw [HZ.out]; exact hjz)
                rw [← eK] at eO eD
                subst eG
                have HLj := Lib.hid (HL3.out.old H.out.1.touch)
                rcases Nat.eq_zero_or_pos j with rfl | hj0
                · clear eD
                  obtain ⟨x, hx⟩ : ∃ x, L.getD 0 0 = x := ⟨_, rfl⟩
                  rw [hx] at hcj eO eL eU
                  simp only [Nat.add_zero] at hcj
                  clear hx eK
                  go_wp2_with (go_at_call 42; fail)
                  refine (blk_Owner x H.out.1.blk HLj.out.lim HLj.out.siz).mono ?_
                  rintro e w9 ⟨rfl, hT9⟩
                  rw [eO]
                  have H9 : Hid (OneB W3 w9 p q n n c ks ∧ IntsIn w9 (.slice (some ⟨b7, o7, none⟩) z cap7) L) := ⟨H.out.1.step hT9, H.out.2.old hT9⟩
                  obtain ⟨_, c1⟩ := HB.out _ H9.out.1.touch
                  clear H hT9 eO hcj c0 HLj
                  have HSz := Lib.hid (fun w : World => ref03_Size K w)
                  have hbb : ((b : Int) == (b : Int)) = true := by simp
                  have hKK : (K == K) = true := by simp
                  go_wp2_with fail
                  set_option maxHeartbeats 600000 in
                  go_quiet ((go_at_call 43; exact Calls.quiet_of_same ((HSz.out _).mono fun _ _ h => ⟨h.1, h.2.symm⟩)))
                  go_wp2
                  go_roundw
                  case rel => exact ⟨1, by omega, by go_num, H9.out.1.step ((Touch.refl _ _).drewN nq), H9.out.2.old ((Touch.refl _ _).drewN nq)⟩
                  case measure => simp [intOf]; omega
                · obtain ⟨m, hm⟩ : ∃ m, j = m + 1 := ⟨j - 1, by omega⟩
                  obtain ⟨b8, o8, cp8, hv', _, hcm⟩ := H.out.2.at (k := m) (by rw [HZ.out]; omega)
                  have h8 : b7 = b8 ∧ o7 = o8 := by
                    simp only [Value.slice.injEq, Option.some.injEq] at hv'
                    have := hv'.1
                    cases this
                    exact ⟨rfl, rfl⟩
                  rw [← h8.1, ← h8.2] at hcm
                  clear hv' h8
                  obtain ⟨-, -, -, -, -, eL', eU'⟩ := HF.out m (by rw [HZ.out]; omega)
                  have eD := eD (by omega)
                  rw [show j - 1 = m by omega] at eD
                  obtain ⟨x, hx⟩ : ∃ x, L.getD j 0 = x := ⟨_, rfl⟩
                  obtain ⟨y, hy⟩ : ∃ y, L.getD m 0 = y := ⟨_, rfl⟩
                  rw [hx] at hcj eO eL eU eD
                  rw [hy] at hcm eD eL' eU'
                  have hmi : (0 : Int) ≤ (m : Int) := by omega
                  have hmz : (m : Int) < (z : Int) := by omega
                  have hj1 : (0 : Int) < (j : Int) := by omega
                  have hwj : IntKind.i64.wrap ((j : Int) - 1) = (m : Int) := by rw [IntKind.wrap_i64]; omega
                  have hwx : IntKind.i64.wrap (x - y) = clsSize K := by rw [IntKind.wrap_i64]; omega
                  have HM := Lib.hid hm
                  have hde : (x - y == clsSize K) = true := by simp; omega
                  have hdn : (x - y != clsSize K) = false := by simp; omega
                  have hss : (clsSize K == clsSize K) = true := by simp
                  have hbb : ((b : Int) == (b : Int)) = true := by simp
                  have hKK : (K == K) = true := by simp
                  clear hx hy eK hm eD
                  go_wp2_with (go_at_call 42; fail)
                  refine (blk_Owner x H.out.1.blk HLj.out.lim HLj.out.siz).mono ?_
                  rintro e w9 ⟨rfl, hT9⟩
                  rw [eO]
                  have H9 : Hid (OneB W3 w9 p q n n c ks ∧ IntsIn w9 (.slice (some ⟨b7, o7, none⟩) z cap7) L) := ⟨H.out.1.step hT9, H.out.2.old hT9⟩
                  obtain ⟨_, c1⟩ := HB.out _ H9.out.1.touch
                  have hcj1 := (hT9.cell (cell_lt hcj) (fun x => x)).trans hcj
                  have hcm1 := (hT9.cell (cell_lt hcm) (fun x => x)).trans hcm
                  clear H hT9 eO hcj hcm c0 HLj
                  have HW9 := Lib.hid (Touch.refl nob w9)
                  go_wp2_with fail
                  go_region_held3 (fun w' => w'.cell? ⟨b7, o7 + j, none⟩ = some (.int .i64 x) ∧ w'.cell? ⟨b7, o7 + m, none⟩ = some (.int .i64 y)) (first | exact ⟨hcj1, hcm1⟩) (first
                    | (go_at_call 43; refine (ref03_Size _ _).mono ?_; rintro e w10 ⟨rfl, rfl⟩))
                  go_wp2
                  go_roundw
                  case rel => exact ⟨j + 1, hjz, by go_num, H9.out.1.step ((Touch.refl _ _).drew), H9.out.2.old ((Touch.refl _ _).drew)⟩
                  case measure => simp [intOf]; omega
              · obtain rfl : j = z := by omega
                go_wp2
                go_roundw
                case rel => exact ⟨b + 1, by omega, by go_num, by rw [HAL.out]; go_num, H.out.1⟩
                case measure => simp [intOf]; omega
          · obtain rfl : b = n := by omega
            obtain ⟨z, hz⟩ : ∃ z, (allSl c ks b).length = z := ⟨_, rfl⟩
            have hz5 : z ≤ 512 := by rw [← hz]; have := allSl_le (c := c) (ks := ks) b; omega
            obtain ⟨u, hu⟩ : ∃ u, b - ks.length = u := ⟨_, rfl⟩
            have huk : u = b - k := by rw [← hu, HKS.out]; omega
            have l1 : ∀ wr, OneB W3 wr p q b b c ks → Calls Tryd.prog 35 #[.pointer (some ⟨p, 0, none⟩), .int .i64 10000] wr fun e w' => ∃ ao cp, e = .returned (.slice ao z cp) ∧ OneB W3 w' p q b b c ks := fun wr h =>
              (law07_list 10000 h.blk (HL3.out.old h.touch)).mono fun e w' ⟨v, g1, g2, g3⟩ => by
                rw [List.take_of_length_le (by omega)] at g3
                obtain ⟨ao, cp, hv⟩ := g3.shape
                rw [hz] at hv
                exact ⟨ao, cp, by rw [g1, hv], h.step g2⟩
            have l2 : ∀ wr, OneB W3 wr p q b b c ks → Calls Tryd.prog 36 #[.pointer (some ⟨p, 0, none⟩)] wr fun e w' => ∃ ao cp, e = .returned (.slice ao u cp) ∧ OneB W3 w' p q b b c ks := fun wr h =>
              (blk_Unassigned h.blk).mono fun e w' ⟨v, g1, g2, g3⟩ => by
                obtain ⟨ao, cp, hv⟩ := g3.shape
                rw [List.length_map, elems_len, cnt_ge, hu] at hv
                exact ⟨ao, cp, by rw [g1, hv], h.step g2⟩
            have HLS := Lib.hid (And.intro l1 l2)
            have hT8 := HO.out.touch
            clear l1 l2 hu
            have hwn : IntKind.i64.wrap ((b : Int) - (k : Int)) = (b : Int) - (k : Int) := by rw [IntKind.wrap_i64]; omega
            rw [hz]
            clear hz
            by_cases hkb : k < b
            · have hmx : ((0 : Int) < (b : Int) - (k : Int)) = True := by simp; omega
              have hue : ((u : Int) == (b : Int) - (k : Int)) = true := by simp; omega
              clear huk HKS
              go_wp2_with fail
              go_region_held3 (fun w' => w'.cell? ⟨b0, 0, none⟩ = some (.int .i64 b)) (first | exact (HB.out _ (by first | assumption | exact hT8.drew)).2) (first
                | (go_at_call 36; refine (HLS.out.2 _ H9.out).mono ?_; rintro e w10 ⟨ao10, cp10, rfl, h10⟩; have hT10 := h10.touch; have H10 := Lib.hid h10; clear h10)
                | (go_at_call 35; refine (HLS.out.1 _ (HO.out.step (Touch.drew (Touch.refl _ _)))).mono ?_; rintro e w9 ⟨ao9, cp9, rfl, h9⟩; have hT9 := h9.touch; have H9 := Lib.hid h9; clear h9))
              all_goals
                go_wp2
                go_ret
                exact ⟨rfl, (H3.out.1.trans hT10).below⟩
            · obtain rfl : u = 0 := by omega
              have hmx : ((0 : Int) < (b : Int) - (k : Int)) = False := by simp; omega
              clear huk HKS
              go_wp2_with fail
              go_region_held3 (fun w' => w'.cell? ⟨b0, 0, none⟩ = some (.int .i64 b)) (first | exact (HB.out _ (by first | assumption | exact hT8.drew)).2) (first
                | (go_at_call 36; refine (HLS.out.2 _ H9.out).mono ?_; rintro e w10 ⟨ao10, cp10, rfl, h10⟩; have hT10 := h10.touch; have H10 := Lib.hid h10; clear h10)
                | (go_at_call 35; refine (HLS.out.1 _ (HO.out.step (Touch.drew (Touch.refl _ _)))).mono ?_; rintro e w9 ⟨ao9, cp9, rfl, h9⟩; have hT9 := h9.touch; have H9 := Lib.hid h9; clear h9))
              all_goals
                go_wp2
                go_ret
                exact ⟨rfl, (H3.out.1.trans hT10).below⟩
  · go_wp2_with (go_at_call 37; fail)
    simp only [set7] at hW3
    rw [← hW3]
    clear hW3 y0 y1 y2 y3 y4 y5 y6 g0 g1 g2 g3 g4 g5 g6
    refine (law07_awake W3 (HL.out.old H3.out.1)).mono ?_
    rintro e w4 ⟨rfl, hT4⟩
    have H4 := Lib.hid (H3.out.1.trans hT4)
    clear hT4
    go_wp2
    go_ret
    exact ⟨rfl, H4.out.below⟩
end Go.Proofs.YtjbmpdibjfcafaaDoor
