/- The law BitsPlay, walked. Conditions: the library's table reads as laid. -/
import Derived.Test.YtjbmpdibjfcafaaDoorAwake1
import Derived.Test.YtjbmpdibjfcafaaDoorRef01b
import Derived.Test.YtjbmpdibjfcafaaDoorLaws01
namespace Go.Proofs.YtjbmpdibjfcafaaDoor
open Go.RowKit

/-- A set and the document's one. -/
structure Pair (w wr : World) (p q cap p' q' size : Nat) (ws : List Nat) (M M' : Nat → Bool) : Prop where
  touch : Touch nob w wr
  hp : w.heap.size ≤ p
  hq : w.heap.size ≤ q
  hp' : w.heap.size ≤ p'
  hq' : w.heap.size ≤ q'
  apart : p ≠ q' ∧ q ≠ p' ∧ q ≠ q'
  set : SetAt wr p q cap ws size M
  ref : RefAt wr p' q' size M'
variable {w wr : World} {p q cap p' q' size : Nat} {ws : List Nat} {M M' : Nat → Bool}
theorem Pair.step {w' : World} (h : Pair w wr p q cap p' q' size ws M M') (ht : Touch nob wr w') : Pair w w' p q cap p' q' size ws M M' :=
  ⟨h.touch.trans ht, h.hp, h.hq, h.hp', h.hq', h.apart, h.set.touch ht (fun x => x) (fun x => x), h.ref.touch ht (fun x => x) (fun x => x)⟩
theorem pair_PutS (n : Int) (b : Bool) (h : Pair w wr p q cap p' q' size ws M M') :
    Calls Tryd.prog 17 #[.pointer (some ⟨p, 0, none⟩), .int .i64 n, .bool b] wr fun e w' => ∃ ws', e = .returned (.bool (putB M size n b)) ∧ Pair w w' p q cap p' q' size ws' (putM M size n b) M' :=
  (set_Put n b h.set).mono fun _ _ ⟨ws', g1, g2, g3⟩ => ⟨ws', g1, h.touch.step g2 (fun i hi => .inr (by rw [hi]; exact h.hq)), h.hp, h.hq, h.hp', h.hq', h.apart, g3, h.ref.touch g2 h.apart.2.1.symm h.apart.2.2.symm⟩
theorem pair_PutR (n : Int) (b : Bool) (h : Pair w wr p q cap p' q' size ws M M') :
    Calls Tryd.prog 21 #[.pointer (some ⟨p', 0, none⟩), .int .i64 n, .bool b] wr fun e w' => e = .returned (.bool (putB M' size n b)) ∧ Pair w w' p q cap p' q' size ws M (putM M' size n b) :=
  (ref_Put n b h.ref).mono fun _ _ ⟨g1, g2, g3⟩ => ⟨g1, h.touch.step g2 (fun i hi => .inr (by rw [hi]; exact h.hq')), h.hp, h.hq, h.hp', h.hq', h.apart, h.set.touch g2 h.apart.1 h.apart.2.2, g3⟩
theorem new_blocks {w w' : World} {p q cap size : Nat} {ws : List Nat} {M : Nat → Bool} (h : SetAt w p q cap ws size M) (_ : Touch nob w w') : p < w.heap.size ∧ q < w.heap.size := ⟨blk_lt h.box, h.row.lt⟩
set_option maxRecDepth 20000 in
set_option maxHeartbeats 8000000 in
theorem law_BitsPlay {w : World} (s : Int) (hs : (Lit.int .u16 s).wf = true) (l : Value) (rows : List (List Value)) (hl : IsSlice w l [some .i64, none] rows) (n : Int) (_ : (Lit.int .i64 n).wf = true) (hTab : Tab w) :
    Calls Tryd.prog 4 #[.int .u16 s, l, .int .i64 n] w fun e w' => e = .returned (.bool true) ∧ Below w.heap.size w w' := by
  obtain ⟨s0, s1⟩ := bounds_u16 hs
  clear hs
  obtain ⟨N, hI, hNr⟩ := rows_of_slice hl (by simp)
  clear hNr
  obtain ⟨ao, cap, rfl, hI⟩ := hI
  have HI := Lib.hid hI
  have HT := Lib.hid hTab
  clear hl hI hTab
  have awake : ∀ wr, Touch nob w wr → Calls Tryd.prog 15 #[] wr fun e w' => e = .returned (.bool true) ∧ Touch nob w w' := fun wr ht =>
    (law01_awake wr (HT.out.touch ht (fun x => x))).mono fun _ _ g => ⟨g.1, ht.trans g.2⟩
  have HW := Lib.hid awake
  clear awake
  obtain ⟨m, hm⟩ : ∃ m : Nat, s.tmod 500 = m := ⟨(s.tmod 500).toNat, by have := Int.tmod_nonneg 500 s0; omega⟩
  have hm5 : m < 500 := by have := Int.tmod_lt_of_pos s (show (0 : Int) < 500 by omega); omega
  by_cases h200 : N ≤ 200
  · go_enter Tryd.func4, Tryd.ntmps4
    go_wp2_with (go_at_call 16; fail)
    refine (bits_New_ok m (by omega) w).mono ?_
    rintro e w1 ⟨p, q, cap', ws, rfl, hT1, hp, hq, hS⟩
    go_wp2_with (go_at_call 20; fail)
    refine (ref01_New m (by omega) w1).mono ?_
    rintro e w2 ⟨p', q', rfl, hT2, hp', hq', hR⟩
    have h0 : Pair w w2 p q cap' p' q' m ws (fun _ => false) (fun _ => false) := by
      have hl := new_blocks hS hT2
      have hs1 := hT1.size
      exact ⟨hT1.trans hT2, hp, hq, by omega, by omega, by omega, hS.touch hT2 (fun x => x) (fun x => x), hR⟩
    clear hT1 hp hq hS hT2 hp' hq' hR hm
    have H0 := Lib.hid h0
    clear h0
    go_wp2_with fail
    go_loopw [11] (fun i wr => ∃ k : Nat, k ≤ N ∧ i = .int .i64 k ∧ Hid (∃ ws M, Pair w wr p q cap' p' q' m ws M M)) (fun i _ => N - (intOf i).toNat)
    case atStart => exact ⟨0, by omega, rfl, _, _, H0.out⟩
    case round =>
      obtain ⟨k, hk, rfl, HP⟩ := hrel
      clear H0
      obtain ⟨ws, M, h0⟩ := HP.out
      clear HP
      by_cases hlt : k < N
      · obtain ⟨b, o, hao, hcap, hmx, hcells⟩ := HI.out.resolve_left (by omega)
        subst hao
        obtain ⟨r, hfit, hcx⟩ := hcells k hlt
        obtain ⟨x, us1, rfl, _, hf1⟩ := fits_int hfit
        obtain ⟨t, us2, rfl, hf2⟩ := fits_bool hf1
        obtain rfl := fits_nil hf2
        have y0 := hcx 0 (by simp)
        have y1 := hcx 1 (by simp)
        simp only [List.length_cons, List.length_nil, Nat.zero_add, Nat.reduceAdd, Nat.add_zero, List.getElem?_cons_zero, List.getElem?_cons_succ, ← Nat.add_assoc] at y0 y1
        have HC : Hid (∀ w', Touch nob w w' → w'.cell? ⟨b, o + k * 2, none⟩ = some (.int .i64 x) ∧ w'.cell? ⟨b, o + k * 2 + 1, none⟩ = some (.bool t)) := fun w' ht => ⟨(ht.cell (cell_lt y0) (fun x => x)).trans y0, (ht.cell (cell_lt y1) (fun x => x)).trans y1⟩
        have hb : (k : Int) < (N : Int) := by omega
        have hTr := h0.touch
        have HP := Lib.hid h0
        clear hcx hcells y0 y1 hfit hf1 hf2 h0
        go_wp2_with fail
        go_region_held3 (fun w' => w'.cell? ⟨b, o + k * 2, none⟩ = some (.int .i64 x) ∧ w'.cell? ⟨b, o + k * 2 + 1, none⟩ = some (.bool t)) (first | exact HC.out _ (by first | assumption | exact hTr.drew)) (first
          | (go_at_call 17; refine (pair_PutS x t (HP.out.step (Touch.drew (Touch.refl _ _)))).mono ?_; rintro e w1 ⟨ws1, rfl, h1⟩; have hT1 := h1.touch; have H1 := Lib.hid h1; clear h1)
          | (go_at_call 21; refine (pair_PutR x t H1.out).mono ?_; rintro e w2 ⟨rfl, h2⟩; have hT2 := h2.touch; have H2 := Lib.hid h2; clear h2)
          | (go_at_call 18; refine (set_Has x H2.out.set).mono ?_; rintro e w3 ⟨rfl, rfl⟩)
          | (go_at_call 22; refine (ref_Has x H2.out.ref).mono ?_; rintro e w4 ⟨rfl, rfl⟩))
        go_wp2
        go_roundw
        case rel => exact ⟨k + 1, by omega, by go_num, _, _, H2.out⟩
        case measure => simp [intOf]; omega
      · obtain rfl : k = N := by omega
        have HP := Lib.hid h0
        clear h0
        go_wp2_with (go_at_call 23; fail)
        refine (ref_All HP.out.ref).mono ?_
        rintro e w3 ⟨v3, rfl, hT3, hI3⟩
        have H3 := Lib.hid (And.intro (HP.out.step hT3) hI3)
        clear hT3 hI3 HP
        go_wp2_with (go_at_call 24; fail)
        refine (set_Next n H3.out.1.set (HT.out.touch H3.out.1.touch (fun x => x))).mono ?_
        rintro e w4 ⟨o, ho, rfl, rfl⟩
        go_wp2_with (go_at_call 25; fail)
        refine (ref_Next n H3.out.1.ref).mono ?_
        rintro e w4 ⟨o', ho', rfl, rfl⟩
        obtain rfl : o' = o := ho'.unique ho
        clear ho ho'
        obtain ⟨ao3, cap3, hv3⟩ := H3.out.2.shape
        rw [List.length_map, elems_len] at hv3
        have HC3 := Lib.hid (And.intro H3.out (cnt_le M m))
        clear H3
        obtain ⟨c, hc⟩ : ∃ c, cnt M m = c := ⟨_, rfl⟩
        have HCC := Lib.hid hc
        rw [hc] at hv3
        subst hv3
        clear hc
        go_wp2_with (go_at_call 26; fail)
        refine (set_Size HC3.out.1.1.set).mono ?_
        rintro e w4 ⟨rfl, rfl⟩
        go_wp2_with (go_at_call 27; fail)
        refine (set_Count HC3.out.1.1.set).mono ?_
        rintro e w4 ⟨rfl, rfl⟩
        rw [HCC.out]
        go_wp2_with (go_at_call 29; fail)
        refine (law01_list 1000 HC3.out.1.1.set (HT.out.touch HC3.out.1.1.touch (fun x => x))).mono ?_
        rintro e w4 ⟨v4, rfl, hT4, hI4⟩
        have H4 := Lib.hid (And.intro (HC3.out.1.1.step hT4) (And.intro (HC3.out.1.2.old hT4) hI4))
        clear hT4 hI4
        go_wp2_with (go_at_call 28; fail)
        refine (ref01_Same _ _ _ w4 H4.out.2.2 (by
          rw [List.take_of_length_le (by rw [elems_len]; have := HC3.out.2; omega)]
          exact H4.out.2.1) (by simp; have := HC3.out.2; rw [elems_len]; omega)).mono ?_
        rintro e w5 ⟨rfl, hT5⟩
        have H5 := Lib.hid (H4.out.1.step hT5)
        clear hT5
        obtain ⟨d, hd⟩ : ∃ d : Nat, o'.getD 0 = d := ⟨_, rfl⟩
        obtain ⟨f, hf⟩ : ∃ f, o'.isSome = f := ⟨_, rfl⟩
        rw [hd, hf]
        clear hd hf
        go_wp2_with (go_at_call 18; fail)
        refine (set_Has n H5.out.set).mono ?_
        rintro e w6 ⟨rfl, rfl⟩
        go_wp2_with (go_at_call 22; fail)
        refine (ref_Has n H5.out.ref).mono ?_
        rintro e w6 ⟨rfl, rfl⟩
        go_wp2_with (go_at_call 15; fail)
        refine (HW.out _ H5.out.touch).mono ?_
        rintro e w6 ⟨rfl, hT6⟩
        go_wp2
        go_ret
        exact ⟨rfl, hT6.below⟩
  · go_enter Tryd.func4, Tryd.ntmps4
    go_wp2_with (go_at_call 15; fail)
    refine (HW.out _ (by repeat (first | with_reducible exact Touch.refl _ _ | with_reducible assumption | with_reducible apply Touch.alloc | with_reducible apply Touch.drewN | with_reducible apply Touch.drew | with_reducible refine Touch.setCell ?_ (.inr (by first | omega | (simp; done) | (simp; omega))) _))).mono ?_
    rintro e w1 ⟨rfl, hT⟩
    go_wp2
    go_ret
    exact ⟨rfl, hT.below⟩
end Go.Proofs.YtjbmpdibjfcafaaDoor
