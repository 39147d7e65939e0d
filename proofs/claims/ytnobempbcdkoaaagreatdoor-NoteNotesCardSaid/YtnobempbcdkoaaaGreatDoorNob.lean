/- The notes' laws: what a pour is to paint anew, walked. Conditions: none beyond what it says. -/
import Derived.Test.YtnobempbcdkoaaaGreatDoorNoa
namespace Go.Proofs.YtnobempbcdkoaaaGreatDoor
open Go.RowKit

variable {w w' : World} {col : Int} {bs : List Int}
/-- What a pour is to paint anew, in how many steps. -/
def PwR (V : Int → Int) (col : Int) (bs : List Int) (x : Nat) (F : List Int) (k : Nat) : Prop :=
  (bs = [] ∧ k = 0 ∧ F = []) ∨ (bs ≠ [] ∧ x = 0 ∧ k = 1 ∧ F = []) ∨ (bs ≠ [] ∧ x ≠ 0 ∧ k = bs.length + (if F = [] then 1 else 2) ∧ ∀ y, y ∈ F ↔ y ∈ bs ∧ V y ≠ col)
set_option maxRecDepth 20000 in
theorem law19_poured {all cols : List Int} {va vc vb : Value} (V : Int → Int) (ha : IntsIn w va all) (hc : IntsIn w vc cols) (hb : IntsIn w vb bs) (hal : all.length ≤ 4096) (hcl : cols.length = all.length) (hbl : bs.length ≤ 4096) (hin : ∀ y, y ∈ bs → y ∈ all) (hV : ∀ j, j < all.length → cols.getD j 0 = V (all.getD j 0)) (x : Nat) (hx : x ≤ 4096) :
    Calls Tryz.prog 40 #[va, vc, vb, .int .i64 x, .int .i64 col] w fun e w' => ∃ vf F, ∃ k : Nat, e = .returned (.tuple #[vf, .int .i64 k]) ∧ Touch nob w w' ∧ Ow w' w.heap.size vf F ∧ F.length ≤ bs.length ∧ PwR V col bs x F k := by
  obtain ⟨aa, ca, ea⟩ := ha.shape
  obtain ⟨ac, cc, ec⟩ := hc.shape
  obtain ⟨ab, cb, eb⟩ := hb.shape
  obtain ⟨N, hN⟩ : ∃ N, all.length = N := ⟨_, rfl⟩
  obtain ⟨M, hM⟩ : ∃ M, bs.length = M := ⟨_, rfl⟩
  rw [hcl, hN] at ec
  rw [hN] at hal ea
  rw [hM] at eb hbl ⊢
  subst ea ec eb
  have HH := Lib.hid (And.intro ha (And.intro hc (And.intro hb (And.intro hin (And.intro hV (And.intro hN (And.intro hM hcl)))))))
  clear ha hc hb hin hV hN hM hcl
  by_cases hM0 : M = 0
  · subst hM0
    have hbs : bs = [] := List.length_eq_zero_iff.1 HH.out.2.2.2.2.2.2.1
    have HBs := Lib.hid hbs
    clear hbs
    go_enter Tryz.func40, Tryz.ntmps40
    go_wp2
    go_ret2
    exact ⟨_, [], 0, rfl, Touch.refl _ _, World.ownsRow_nil _ _ _ _, Nat.zero_le _, .inl ⟨HBs.out, rfl, rfl⟩⟩
  · have hM1 : ((M : Int) == 0) = false := by simp; omega
    have HBs : Hid (bs ≠ []) := fun e => hM0 (by rw [← HH.out.2.2.2.2.2.2.1, e]; rfl)
    by_cases hx0 : x = 0
    · subst hx0
      go_enter Tryz.func40, Tryz.ntmps40
      go_wp2
      go_ret2
      exact ⟨_, [], 1, rfl, Touch.refl _ _, World.ownsRow_nil _ _ _ _, Nat.zero_le _, .inr (.inl ⟨HBs.out, rfl, rfl, rfl⟩)⟩
    · have hx1 : ((x : Int) == 0) = false := by simp; omega
      have hx0' : Hid (x ≠ 0) := hx0
      clear hx0
      obtain ⟨i0, hi, hz0, hz1', hz2⟩ := info_parts info_int2
      go_enter Tryz.func40, Tryz.ntmps40
      go_wp2_with fail
      go_loopw [12, 13] (fun vf iv wr => ∃ j : Nat, j ≤ M ∧ iv = .int .i64 j ∧ ∃ F, ∃ l : Nat, l ≤ j ∧ Hid (Touch nob w wr ∧ Ow wr w.heap.size vf F ∧ F.length = l ∧ ∀ y, y ∈ F ↔ y ∈ bs.take j ∧ V y ≠ col)) (fun _ iv _ => M - (intOf iv).toNat)
      case atStart => exact ⟨0, Nat.zero_le _, rfl, [], 0, Nat.le_refl _, Touch.refl _ _, World.ownsRow_nil _ _ _ _, rfl, fun y => by simp⟩
      case round =>
        obtain ⟨j, hj, rfl, F, l, hlj, HI⟩ := hrel
        by_cases hlt : j < M
        · have hb : (j : Int) < (M : Int) := by omega
          obtain ⟨g3, o3, p3, e3, hcap3, hcell3⟩ := (HH.out.2.2.1.old HI.out.1).at (k := j) (by rw [HH.out.2.2.2.2.2.2.1]; exact hlt)
          rw [HH.out.2.2.2.2.2.2.1] at e3 hcap3
          injection e3 with x1 x2 x3
          subst x1 x3
          have hjm : bs.getD j 0 ∈ bs := by
            rw [List.getD_eq_getElem?_getD, List.getElem?_eq_getElem (by rw [HH.out.2.2.2.2.2.2.1]; exact hlt)]
            exact List.getElem_mem _
          have htk : bs.take (j + 1) = bs.take j ++ [bs.getD j 0] := take_succ_getD (by rw [HH.out.2.2.2.2.2.2.1]; exact hlt)
          obtain ⟨y, hy⟩ : ∃ y, bs.getD j 0 = y := ⟨_, rfl⟩
          rw [hy] at hcell3 hjm htk
          have hpl := law19_place (.slice aa N ca) all y (HH.out.1.old HI.out.1) (by have := HH.out.2.2.2.2.2.1; omega) (HH.out.2.2.2.1 y hjm)
          have HX := Lib.hid (And.intro hpl htk)
          clear hpl hjm htk hy x2
          go_wp2_with (go_at_call 39; fail)
          refine HX.out.1.mono ?_
          rintro e w5 ⟨i, rfl, rfl, hi5, hi6⟩
          obtain ⟨g2, o2, p2, e2, hcap2, hcell2⟩ := (HH.out.2.1.old HI.out.1).at (k := i) (by rw [HH.out.2.2.2.2.2.2.2]; exact hi5)
          have hVi := HH.out.2.2.2.2.1 i hi5
          rw [HH.out.2.2.2.2.2.1] at hi5
          rw [HH.out.2.2.2.2.2.2.2, HH.out.2.2.2.2.2.1] at e2 hcap2
          injection e2 with z1 z2 z3
          subst z1 z3
          rw [hVi, hi6] at hcell2
          clear z2 hVi hi6
          have hib : (i : Int) < (N : Int) := by omega
          by_cases hVc : V y = col
          · rw [hVc] at hcell2
            have HN : Hid (∀ z, z ∈ F ↔ z ∈ bs.take (j + 1) ∧ V z ≠ col) := fun z => by
              rw [HX.out.2, List.mem_append, List.mem_singleton, HI.out.2.2.2 z]
              constructor
              · rintro ⟨h1, h2⟩; exact ⟨.inl h1, h2⟩
              · rintro ⟨h1 | rfl, h2⟩
                · exact ⟨h1, h2⟩
                · exact absurd hVc h2
            clear hVc
            go_wp2_with fail
            go_roundw
            case rel => exact ⟨j + 1, by omega, by go_num, F, l, by omega, HI.out.1, HI.out.2.1, HI.out.2.2.1, HN.out⟩
            case measure => simp [intOf]; omega
          · obtain ⟨d, hd⟩ : ∃ d, V y = d := ⟨_, rfl⟩
            rw [hd] at hcell2
            have hdc : (d != col) = true := by rw [← hd]; simpa using hVc
            have HVc : Hid (V y ≠ col) := hVc
            clear hVc hd
            go_wp2_with (go_at_call 16; fail)
            refine (ref01_In u12 F y HI.out.2.1.ints (by have := HI.out.2.2.1; omega)).mono ?_
            rintro e w6 ⟨rfl, t6⟩
            have HT6 := Lib.hid t6
            clear t6
            by_cases hyF : y ∈ F
            · rw [decide_eq_true hyF]
              have HN : Hid (∀ z, z ∈ F ↔ z ∈ bs.take (j + 1) ∧ V z ≠ col) := fun z => by
                rw [HX.out.2, List.mem_append, List.mem_singleton, HI.out.2.2.2 z]
                constructor
                · rintro ⟨h1, h2⟩; exact ⟨.inl h1, h2⟩
                · rintro ⟨h1 | rfl, h2⟩
                  · exact ⟨h1, h2⟩
                  · exact (HI.out.2.2.2 z).1 hyF
              clear hyF
              go_wp2_with fail
              go_roundw
              case rel => exact ⟨j + 1, by omega, by go_num, F, l, by omega, HI.out.1.trans HT6.out, HI.out.2.1.touch HT6.out (fun _ _ x => x), HI.out.2.2.1, HN.out⟩
              case measure => simp [intOf]; omega
            · rw [decide_eq_false hyF]
              have HN : Hid (∀ z, z ∈ F ++ [y] ↔ z ∈ bs.take (j + 1) ∧ V z ≠ col) := fun z => by
                rw [HX.out.2, List.mem_append, List.mem_append, List.mem_singleton, HI.out.2.2.2 z]
                constructor
                · rintro (⟨h1, h2⟩ | rfl)
                  · exact ⟨.inl h1, h2⟩
                  · exact ⟨.inr rfl, HVc.out⟩
                · rintro ⟨h1 | rfl, h2⟩
                  · exact .inl ⟨h1, h2⟩
                  · exact .inr rfl
              have hfo : w6.ownsRow w.heap.size 3 1 u12 l (F.map (.int .i64)) := by
                have h9 : Ow w6 w.heap.size u12 F := HI.out.2.1.touch HT6.out (fun _ _ x => x)
                unfold Ow at h9
                rwa [HI.out.2.2.1] at h9
              have hc3 := (HT6.out.cell (cell_lt hcell3) (fun x => x)).trans hcell3
              have HFO := Lib.hid hfo
              have HS6 : Hid (w.heap.size ≤ w6.heap.size) := (HI.out.1.trans HT6.out).size
              clear hfo hyF hcell3 hcell2
              go_wp2_with (at_builtin; go_loud (refine wpList_append_own _ rfl _ _ 28 rfl w.heap.size 3 i0 (.int .i64 0) 1 8 Tryz.underlying28 hi hz0 hz1' hz2 rfl (by decide) _ l _ rfl (HFO.out.alloc _) ⟨w6.heap.size, 0, none⟩ 1 1 [.int .i64 y] rfl rfl (World.news_of_block (World.alloc_heap_new _ _)) (ints_oneCell _ [y]) (by unfold maxLen; omega) (by omega) (by have := HS6.out; simp; omega) ?_); intro v3 w7 hown hgrow _; have HW3 := Lib.hid (And.intro hown hgrow); clear hown hgrow)
              go_roundw
              case rel =>
                refine ⟨j + 1, by omega, by go_num, F ++ [y], l + 1, by omega, (HI.out.1.trans HT6.out).grown2 HW3.out.2 (fun k hk => (World.ownsRow.lt HFO.out k hk).1), ?_, by rw [List.length_append, HI.out.2.2.1]; rfl, HN.out⟩
                unfold Ow
                rw [List.length_append, HI.out.2.2.1, List.map_append]
                exact HW3.out.1
              case measure => simp [intOf]; omega
        · obtain rfl : j = M := by omega
          have hb : ¬ (j : Int) < (j : Int) := by omega
          have HE := Lib.hid (And.intro HI.out.1 (And.intro HI.out.2.1 (And.intro HI.out.2.2.1 (show ∀ y, y ∈ F ↔ y ∈ bs ∧ V y ≠ col from fun y => by
            have := HI.out.2.2.2 y
            rwa [List.take_of_length_le (Nat.le_of_eq HH.out.2.2.2.2.2.2.1)] at this))))
          obtain ⟨af, cf, ef⟩ := HI.out.2.1.ints.shape
          rw [HI.out.2.2.1] at ef
          subst ef
          clear HI
          by_cases hl0 : l = 0
          · subst hl0
            have HF0 : Hid (F = []) := List.length_eq_zero_iff.1 HE.out.2.2.1
            go_wp2
            go_ret2
            refine ⟨_, [], j + 1, (by congr 3), HE.out.1, World.ownsRow_nil _ _ _ _, Nat.zero_le _, .inr (.inr ⟨HBs.out, hx0'.out, ?_, fun y => ?_⟩)⟩
            · rw [if_pos rfl, HH.out.2.2.2.2.2.2.1]
            · have := HE.out.2.2.2 y
              rwa [HF0.out] at this
          · have hl1 : (0 : Int) < (l : Int) := by omega
            have HF0 : Hid (F ≠ []) := fun e => hl0 (by rw [← HE.out.2.2.1, e]; rfl)
            go_wp2
            go_ret2
            refine ⟨_, F, j + 2, (by congr 3), HE.out.1, HE.out.2.1, by rw [HE.out.2.2.1]; exact hlj, .inr (.inr ⟨HBs.out, hx0'.out, ?_, HE.out.2.2.2⟩)⟩
            rw [if_neg HF0.out, HH.out.2.2.2.2.2.2.1]
end Go.Proofs.YtnobempbcdkoaaaGreatDoor
