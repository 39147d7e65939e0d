/- HeapPlays, walked. Conditions: the tables of limits, of sizes and of de Bruijn's bits read as laid. -/
import Derived.Test.YtflhjbmoncbomaaGreatDoorLaws11
import Derived.Test.YtflhjbmoncbomaaGreatDoorDoes2
import Derived.Test.YtflhjbmoncbomaaGreatDoorDoes3
import Derived.Test.YtflhjbmoncbomaaGreatDoorLittle
namespace Go.Proofs.YtflhjbmoncbomaaGreatDoor
open Go.RowKit

variable {W w w' : World} {O : Nat → Prop} {m qx : Nat} {c : Cf} {A : HA} {S : HS} {H : Nat → List Nat}
theorem law11_does (k a b x : Int) (h : Two W w A c S H O m qx) :
    Calls Tryz.prog 16 #[.pointer (some ⟨A.h, 0, none⟩), .pointer (some ⟨m, 0, none⟩), .agg #[.int .u8 k, .int .i64 a, .int .i64 b, .int .i64 x]] w fun e w' => e = .returned (.bool true) ∧ Dn W A c S m qx w' := by
  by_cases h0 : k = 0
  · subst h0; exact does_0 h
  by_cases h1 : k = 1
  · subst h1; exact does_1 h
  by_cases h2 : k = 2
  · subst h2; exact does_2 h
  by_cases h3 : k = 3
  · subst h3; exact does_3 h
  by_cases h4 : k = 4
  · subst h4; exact does_4 h
  by_cases h5 : k = 5
  · subst h5; exact does_5 h
  by_cases h6 : k = 6
  · subst h6; exact does_6 h
  by_cases h7 : k = 7
  · subst h7; exact does_7 h
  by_cases h8 : k = 8
  · subst h8; exact does_8 h
  exact does_9 h ⟨⟨h0, h1, h2, h3⟩, ⟨h4, h5, h6, h7⟩, h8⟩
/-- Between two deeds. -/
def PlI (W wr : World) (A : HA) (c : Cf) (m qx : Nat) : Prop := ∃ S H O, Two W wr A c S H O m qx ∧ S.x.length ≤ 64
theorem PlI.old {wr w2 : World} (h : PlI W wr A c m qx) (ht : Touch nob wr w2) : PlI W w2 A c m qx := by
  obtain ⟨S, H, O, h, hx⟩ := h
  exact ⟨S, H, O, h.old ht, hx⟩
theorem PlI.base {wr : World} (h : PlI W wr A c m qx) : Touch nob W wr := by
  obtain ⟨S, H, O, h, hx⟩ := h
  exact h.base
theorem PlI.does {wr : World} (k a b x : Int) (h : PlI W wr A c m qx) :
    Calls Tryz.prog 16 #[.pointer (some ⟨A.h, 0, none⟩), .pointer (some ⟨m, 0, none⟩), .agg #[.int .u8 k, .int .i64 a, .int .i64 b, .int .i64 x]] wr fun e w' => e = .returned (.bool true) ∧ PlI W w' A c m qx := by
  obtain ⟨S, H, O, h, hx⟩ := h
  refine (law11_does k a b x h).mono ?_
  rintro e w' ⟨g1, S', H', O', h', hx'⟩
  exact ⟨g1, S', H', O', h', by omega⟩
/-- A deed that came in. -/
theorem deed_cells {ks : Value} {N : Nat} (h : RowsIn w ks [some .u8, some .i64, some .i64, some .i64] N) : ∃ av cap, ks = .slice av N cap ∧ ∀ j, j < N → ∃ b o k a x y, av = some ⟨b, o, none⟩ ∧ N ≤ cap ∧ w.cell? ⟨b, o + j * 4, none⟩ = some (.int .u8 k) ∧ w.cell? ⟨b, o + j * 4 + 1, none⟩ = some (.int .i64 a) ∧ w.cell? ⟨b, o + j * 4 + 2, none⟩ = some (.int .i64 x) ∧ w.cell? ⟨b, o + j * 4 + 3, none⟩ = some (.int .i64 y) := by
  obtain ⟨ao, cap, rfl, h⟩ := h
  refine ⟨ao, cap, rfl, fun j hj => ?_⟩
  obtain ⟨b, o, rfl, hcap, hmx, hcells⟩ := h.resolve_left (by omega)
  obtain ⟨r, hfit, hcx⟩ := hcells j hj
  obtain ⟨k, us1, rfl, _, hf1⟩ := fits_int hfit
  obtain ⟨a, us2, rfl, _, hf2⟩ := fits_int hf1
  obtain ⟨x, us3, rfl, _, hf3⟩ := fits_int hf2
  obtain ⟨y, us4, rfl, _, hf4⟩ := fits_int hf3
  obtain rfl := fits_nil hf4
  have y0 := hcx 0 (by simp)
  have y1 := hcx 1 (by simp)
  have y2 := hcx 2 (by simp)
  have y3 := hcx 3 (by simp)
  simp only [List.length_cons, List.length_nil, Nat.zero_add, Nat.reduceAdd, Nat.add_zero, List.getElem?_cons_zero, List.getElem?_cons_succ, ← Nat.add_assoc] at y0 y1 y2 y3
  exact ⟨b, o, k, a, x, y, rfl, hcap, y0, y1, y2, y3⟩
set_option maxRecDepth 10000 in
set_option maxHeartbeats 4000000 in
theorem law_HeapPlays {w : World} (a0 : Int) (_ : (Lit.int .i64 a0).wf = true) (a1 : Int) (_ : (Lit.int .i64 a1).wf = true) (a2 : Int) (_ : (Lit.int .i64 a2).wf = true) (a3 : Int) (_ : (Lit.int .i64 a3).wf = true) (a4 : Int) (_ : (Lit.int .i64 a4).wf = true) (a5 : Int) (_ : (Lit.int .i64 a5).wf = true) (a6 : Int) (_ : (Lit.int .i64 a6).wf = true) (l : Value) (rows : List (List Value)) (hl : IsSlice w l [some .u8, some .i64, some .i64, some .i64] rows) (hTab : Tab w) (hLim : Limits w) (hS : Sizes w) :
    Calls Tryz.prog 6 #[CfgV a0 a1 a2 a3 a4 a5 a6, l] w fun e w' => e = .returned (.bool true) ∧ Below w.heap.size w w' := by
  obtain ⟨N, hI0, -⟩ := rows_of_slice hl (by simp)
  obtain ⟨av, cap, rfl, hI⟩ := deed_cells hI0
  have HI := Lib.hid hI
  clear hI0
  have HL := Lib.hid (Laid.mk hLim hS)
  have HTab := Lib.hid hTab
  clear hLim hS hl hI hTab
  obtain ⟨c, hc⟩ : ∃ c, little ⟨a0, a1, a2, a3, a4, a5, a6⟩ = c := ⟨_, rfl⟩
  have hok : c.ok = true := by rw [← hc]; exact little_ok _
  have hc4 : 0 ≤ c.c4 ∧ c.c4 ≤ 3 := by rw [← hc]; simp only [little]; omega
  have hc01 : (0 ≤ c.c0 ∧ c.c0 ≤ 4) ∧ 0 ≤ c.c1 ∧ c.c1 ≤ 36 := by rw [← hc]; simp only [little]; omega
  have hlit := ref02_Little ⟨a0, a1, a2, a3, a4, a5, a6⟩
  rw [hc] at hlit
  have HC := Lib.hid (And.intro hok (And.intro hlit (And.intro hc4 hc01)))
  clear hok hlit hc hc4 hc01
  go_enter Tryz.func6, Tryz.ntmps6
  go_wp2_with fail
  obtain ⟨W, hW⟩ : ∃ W, W = w.alloc (Obj.cells (CfgRow a0 a1 a2 a3 a4 a5 a6) 23) := ⟨_, rfl⟩
  have hT : Touch nob w W := by rw [hW]; (repeat (first | with_reducible exact Touch.refl _ _ | with_reducible assumption | with_reducible apply Touch.alloc | with_reducible apply Touch.drewN | with_reducible apply Touch.drew | with_reducible refine Touch.setCell ?_ (.inr (by first | omega | (simp; done) | (simp; omega))) _))
  have hbx : W.heap[w.heap.size]? = some (Obj.cells (CfgRow a0 a1 a2 a3 a4 a5 a6) 23) := by rw [hW]; exact World.alloc_heap_new w _
  obtain ⟨b0, hb0⟩ : ∃ b, b = w.heap.size := ⟨_, rfl⟩
  rw [← hW, ← hb0]
  rw [← hb0] at hbx
  refine (HC.out.2.1 W).mono ?_
  rintro e w1 ⟨rfl, hT1⟩
  have hb1 := blk_touch hbx hT1 (fun x => x)
  obtain ⟨y0, y1, y2, y3, y4, y5, y6⟩ := cfg_box hb1 (Touch.refl _ _)
  have f0 : ∀ j, w1.frozen? ⟨b0, j, none⟩ = false := fun j => by simp [World.frozen?, hb1]
  have g0 := f0 0; have g1 := f0 1; have g2 := f0 2; have g3 := f0 3; have g4 := f0 4; have g5 := f0 5; have g6 := f0 6
  obtain ⟨W3, hW3⟩ : ∃ W3, W3 = set7 w1 b0 (.int .i64 c.c0) (.int .i64 c.c1) (.int .i64 c.c2) (.int .i64 c.c3) (.int .i64 c.c4) (.int .i64 c.c5) (.int .i64 c.c6) := ⟨_, rfl⟩
  have hc3 : W3.heap[b0]? = some (Obj.cells (CfgRow c.c0 c.c1 c.c2 c.c3 c.c4 c.c5 c.c6) 23) := by rw [hW3]; exact set7_at _ _ _ _ _ _ _ _ hb1
  have hT3 : Touch nob w W3 := by rw [hW3]; exact set7_touch _ _ _ _ _ _ _ (by omega) (hT.trans hT1)
  have HO1 : Hid (∀ k o, k ≠ b0 → W.heap[k]? = some o → W3.heap[k]? = some o) := fun k o hk h => by rw [hW3]; exact (set7_other _ _ _ _ _ _ _ _ hk).trans (blk_touch h hT1 (fun x => x))
  have H3 := Lib.hid (And.intro hT3 hc3)
  clear hT hbx hT1 hb1 f0 hc3 hT3 hW hb0
  by_cases h60 : N ≤ 60
  · skip
    go_wp2_with (go_at_call 13; fail)
    simp only [set7] at hW3
    rw [← hW3]
    clear hW3 y0 y1 y2 y3 y4 y5 y6 g0 g1 g2 g3 g4 g5 g6
    refine (law11_awake W3 (HL.out.old H3.out.1)).mono ?_
    rintro e w4 ⟨rfl, hT4⟩
    obtain ⟨y0, y1, y2, y3, y4, y5, y6⟩ := cfg_box H3.out.2 hT4
    have HT4 := Lib.hid (And.intro (H3.out.1.trans hT4) (blk_touch H3.out.2 hT4 (fun x => x)))
    clear hT4
    go_wp2_with (go_at_call 14; fail)
    refine (heap_New_ok c w4 (HL.out.old HT4.out.1) HC.out.1).mono ?_
    rintro e w5 ⟨A, z, n, rfl, hz, hbn, hn, h5⟩
    have hz1 : z ≤ 144 := by
      have hc01 := HC.out.2.2.2
      have := (mul_bd (a := c.c0) (b := c.c1) (A := 4) (B := 36) hc01.1.1 hc01.1.2 hc01.2.1 hc01.2.2).2
      omega
    have hn3 : n ≤ 3 := by have := HC.out.2.2.1; omega
    obtain ⟨y0, y1, y2, y3, y4, y5, y6⟩ := cfg_box HT4.out.2 h5.at'.base
    have H5 := Lib.hid (And.intro h5 (And.intro hz (And.intro hbn (And.intro hn (And.intro hz1 hn3)))))
    clear h5 hz hbn hn hz1 hn3
    go_wp2_with (go_at_call 15; fail)
    refine (rf_New c n H5.out.2.2.2.1.symm (by have := H5.out.2.2.2.2.2; omega) w5).mono ?_
    rintro e w6 ⟨m, qx, O, rfl, t6, hO, r6⟩
    have H6 : Hid (PlI w4 w6 A c m qx) := ⟨_, _, O, Two.start H5.out.1 t6 hO r6 HC.out.1 H5.out.2.1 (by have := H5.out.2.2.2.2.1; omega) H5.out.2.2.1, by show (List.replicate n (0 : Int)).length ≤ 64; rw [List.length_replicate]; have := H5.out.2.2.2.2.2; omega⟩
    clear t6 hO r6 y0 y1 y2 y3 y4 y5 y6
    go_wp2_with fail
    go_loopw [8] (fun i wr => ∃ j : Nat, j ≤ N ∧ i = .int .i64 j ∧ Hid (PlI w4 wr A c m qx)) (fun i _ => N - (intOf i).toNat)
    case atStart => exact ⟨0, Nat.zero_le _, rfl, H6.out⟩
    case round =>
      obtain ⟨j, hj, rfl, HR⟩ := hrel
      clear H6
      by_cases hlt : j < N
      · have hb : (j : Int) < (N : Int) := by omega
        obtain ⟨b, o, k, a, x, y, hav, hcap, y0, y1, y2, y3⟩ := HI.out j hlt
        subst hav
        have hTr := HT4.out.1.trans HR.out.base
        have c0 := (hTr.cell (cell_lt y0) (fun x => x)).trans y0
        have c1 := (hTr.cell (cell_lt y1) (fun x => x)).trans y1
        have c2 := (hTr.cell (cell_lt y2) (fun x => x)).trans y2
        have c3 := (hTr.cell (cell_lt y3) (fun x => x)).trans y3
        have HD := Lib.hid (HR.out.does k a x y)
        clear y0 y1 y2 y3 hTr
        go_wp2_with (go_at_call 16; fail)
        refine HD.out.mono ?_
        rintro e w7 ⟨rfl, h7⟩
        have H7 := Lib.hid h7
        clear h7 HD c0 c1 c2 c3
        go_wp2
        go_roundw
        case rel => exact ⟨j + 1, by omega, by go_num, H7.out⟩
        case measure => simp [intOf]; omega
      · obtain rfl : j = N := by omega
        have hb : ¬ (j : Int) < (j : Int) := by omega
        obtain ⟨S, H, O, h, hx⟩ := HR.out
        have HA := Lib.hid (law11_Alike h (HTab.out.touch HT4.out.1 (fun x => x)) hx)
        clear hj hlt h hx
        go_wp2_with (go_at_call 34; fail)
        refine HA.out.mono ?_
        rintro e w8 ⟨rfl, -, h8⟩
        have HE := Lib.hid ((HT4.out.1.trans h8.base).below)
        clear h8
        go_wp2
        go_ret
        exact ⟨rfl, HE.out⟩
  · have hlg : (N : Int) > 60 := by omega
    go_wp2_with (go_at_call 13; fail)
    simp only [set7] at hW3
    rw [← hW3]
    clear hW3 y0 y1 y2 y3 y4 y5 y6 g0 g1 g2 g3 g4 g5 g6
    refine (law11_awake W3 (HL.out.old H3.out.1)).mono ?_
    rintro e w4 ⟨rfl, hT4⟩
    have HE := Lib.hid ((H3.out.1.trans hT4).below)
    clear hT4
    go_wp2
    go_ret
    exact ⟨rfl, HE.out⟩
end Go.Proofs.YtflhjbmoncbomaaGreatDoor
