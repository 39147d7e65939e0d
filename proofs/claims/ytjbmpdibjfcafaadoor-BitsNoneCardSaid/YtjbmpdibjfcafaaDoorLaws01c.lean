/- The law BitsRises, walked. Conditions: the library's table reads as laid. -/
import Derived.Test.YtjbmpdibjfcafaaDoorLaws01b
namespace Go.Proofs.YtjbmpdibjfcafaaDoor
open Go.RowKit

variable {w wr : World} {p q cap size : Nat} {ws : List Nat} {M : Nat → Bool}
/-- A set that is new. -/
structure One (w wr : World) (p q cap size : Nat) (ws : List Nat) (M : Nat → Bool) : Prop where
  touch : Touch nob w wr
  hp : w.heap.size ≤ p
  hq : w.heap.size ≤ q
  set : SetAt wr p q cap ws size M
theorem One.step {w' : World} (h : One w wr p q cap size ws M) (ht : Touch nob wr w') : One w w' p q cap size ws M :=
  ⟨h.touch.trans ht, h.hp, h.hq, h.set.touch ht (fun x => x) (fun x => x)⟩
theorem one_Put (n : Int) (b : Bool) (h : One w wr p q cap size ws M) :
    Calls Tryd.prog 17 #[.pointer (some ⟨p, 0, none⟩), .int .i64 n, .bool b] wr fun e w' => ∃ ws', e = .returned (.bool (putB M size n b)) ∧ One w w' p q cap size ws' (putM M size n b) :=
  (set_Put n b h.set).mono fun _ _ ⟨ws', g1, g2, g3⟩ => ⟨ws', g1, h.touch.step g2 (fun i hi => .inr (by rw [hi]; exact h.hq)), h.hp, h.hq, g3⟩
theorem elems_of_lt {m k : Nat} (h : m ≤ size) (hk : (elems M m).length = k) : elems M m = (elems M size).take k := by
  obtain ⟨d, rfl⟩ : ∃ d, size = m + d := ⟨size - m, by omega⟩
  rw [← hk]
  exact List.prefix_iff_eq_take.1 (elems_prefix m d)
/-- What Next tells behind the first k ones. -/
theorem rises_some {m k : Nat} {o : Option Nat} (hm : m ≤ size) (hk : (elems M m).length = k) (hlt : k < (elems M size).length) (h : NextR M size m o) :
    ∃ x, o = some x ∧ (elems M size).getD k 0 = x ∧ m ≤ x ∧ x < size ∧ M x = true ∧ (elems M (x + 1)).length = k + 1 := by
  cases o with
  | none => have := elems_none h hm; rw [this] at hlt; omega
  | some x =>
    have he := elems_some h
    have h2 : (elems M (x + 1)).length = k + 1 := by rw [he]; simp [hk]
    have h3 := elems_of_lt (M := M) (size := size) (m := x + 1) (by have := h.2.1; omega) h2
    refine ⟨x, rfl, ?_, h.1, h.2.1, h.2.2.1, h2⟩
    have h4 : ((elems M size).take (k + 1))[k]? = some x := by rw [← h3, he]; simp [hk]
    rw [List.getElem?_take, if_pos (by omega)] at h4
    rw [List.getD_eq_getElem?_getD, h4]; rfl
theorem rises_none {m : Nat} {o : Option Nat} (hk : (elems M m).length = (elems M size).length) (h : NextR M size m o) : o = none := by
  cases o with
  | none => rfl
  | some x =>
    obtain ⟨d, hd⟩ : ∃ d, size = x + 1 + d := ⟨size - (x + 1), by have := h.2.1; omega⟩
    have h1 := (elems_prefix (M := M) (x + 1) d).length_le
    rw [← hd, elems_some h] at h1
    simp at h1
    omega
theorem has_mem (n : Int) : decide (n ∈ (elems M size).map fun (x : Nat) => (x : Int)) = hasB M size n := by
  apply Bool.eq_iff_iff.2
  rw [decide_eq_true_eq]
  unfold hasB mayB
  simp only [List.mem_map, mem_elems, Bool.and_eq_true, decide_eq_true_eq]
  constructor
  · rintro ⟨x, ⟨h1, h2⟩, rfl⟩
    exact ⟨⟨by omega, by omega⟩, h2⟩
  · rintro ⟨⟨h1, h2⟩, h3⟩
    exact ⟨n.toNat, ⟨by omega, h3⟩, by omega⟩

set_option maxRecDepth 20000 in
set_option maxHeartbeats 8000000 in
theorem law_BitsRises {w : World} (s : Int) (hs : (Lit.int .u16 s).wf = true) (l : Value) (rows : List (List Value)) (hl : IsSlice w l [some .i64] rows) (n : Int) (_ : (Lit.int .i64 n).wf = true) (hTab : Tab w) :
    Calls Tryd.prog 5 #[.int .u16 s, l, .int .i64 n] w fun e w' => e = .returned (.bool true) ∧ Below w.heap.size w w' := by
  obtain ⟨s0, s1⟩ := bounds_u16 hs
  clear hs
  obtain ⟨la, hA, hr1, hr2⟩ := ints_of_slice hl
  clear hl hr1 hr2
  obtain ⟨ao, cap, rfl⟩ := hA.shape
  obtain ⟨N, hN⟩ : ∃ n, la.length = n := ⟨_, rfl⟩
  have HA := Lib.hid (And.intro hA (And.intro hN hTab))
  rw [hN]
  clear hA hN hTab
  have awake : ∀ wr, Touch nob w wr → Calls Tryd.prog 15 #[] wr fun e w' => e = .returned (.bool true) ∧ Touch nob w w' := fun wr ht =>
    (law01_awake wr (HA.out.2.2.touch ht (fun x => x))).mono fun _ _ g => ⟨g.1, ht.trans g.2⟩
  have HW := Lib.hid awake
  clear awake
  obtain ⟨m, hm⟩ : ∃ m : Nat, s.tmod 400 = m := ⟨(s.tmod 400).toNat, by have := Int.tmod_nonneg 400 s0; omega⟩
  have hm5 : m < 400 := by have := Int.tmod_lt_of_pos s (show (0 : Int) < 400 by omega); omega
  by_cases h200 : N ≤ 100
  · go_enter Tryd.func5, Tryd.ntmps5
    go_wp2_with (go_at_call 16; fail)
    refine (bits_New_ok m (by omega) w).mono ?_
    rintro e w1 ⟨p, q, cap', ws, rfl, hT1, hp, hq, hS⟩
    have H0 : Hid (One w w1 p q cap' m ws (fun _ => false)) := ⟨hT1, hp, hq, hS⟩
    clear hT1 hp hq hS hm
    go_wp2_with fail
    go_loopw [9] (fun i wr => ∃ k : Nat, k ≤ N ∧ i = .int .i64 k ∧ Hid (∃ ws M, One w wr p q cap' m ws M)) (fun i _ => N - (intOf i).toNat)
    case atStart => exact ⟨0, by omega, rfl, _, _, H0.out⟩
    case round =>
      obtain ⟨k, hk, rfl, HP⟩ := hrel
      clear H0
      obtain ⟨ws, M, h0⟩ := HP.out
      clear HP
      by_cases hlt : k < N
      · obtain ⟨bl, ob, capx, hv, hcap, hcell⟩ := ((HA.out.1).old h0.touch).at (k := k) (by rw [HA.out.2.1]; exact hlt)
        rw [HA.out.2.1] at hv hcap
        injection hv with hv1 hv2 hv3
        subst hv1 hv3
        obtain ⟨x, hx⟩ : ∃ x, la.getD k 0 = x := ⟨_, rfl⟩
        rw [hx] at hcell
        have hbk : (k : Int) < (N : Int) := by omega
        clear hv2 hx
        have H := Lib.hid h0
        clear h0
        go_wp2_with (go_at_call 17; fail)
        refine (one_Put x true H.out).mono ?_
        rintro e w3 ⟨ws2, rfl, h2⟩
        have H2 := Lib.hid h2
        clear h2 hcell
        go_wp2
        go_roundw
        case rel => exact ⟨k + 1, by omega, by go_num, _, _, H2.out⟩
        case measure => simp [intOf]; omega
      · have H := Lib.hid h0
        clear h0
        go_wp2_with (go_at_call 29; fail)
        refine (law01_list 1000 H.out.set (HA.out.2.2.touch H.out.touch (fun x => x))).mono ?_
        rintro e w4 ⟨v4, rfl, hT4, hI4⟩
        have hlen : (elems M m).length ≤ 400 := by rw [elems_len]; have := cnt_le M m; omega
        rw [List.take_of_length_le (by omega)] at hI4
        obtain ⟨ao4, cap4, hv4⟩ := hI4.shape
        rw [List.length_map] at hv4
        obtain ⟨c, hc⟩ : ∃ c, (elems M m).length = c := ⟨_, rfl⟩
        rw [hc] at hv4 hlen
        subst hv4
        have H4 := Lib.hid (And.intro (H.out.step hT4) (And.intro hI4 hc))
        clear hT4 hI4 hc H
        go_wp2_with fail
        go_loopw [11, 12] (fun av i wr => ∃ k t : Nat, k ≤ c ∧ i = .int .i64 k ∧ av = .int .i64 t ∧ t ≤ m ∧ Hid ((elems M t).length = k) ∧ Hid (One w wr p q cap' m ws M ∧ IntsIn wr (.slice ao4 c cap4) ((elems M m).map fun (x : Nat) => (x : Int)) ∧ (elems M m).length = c)) (fun _ i _ => c - (intOf i).toNat)
        case atStart => exact ⟨0, 0, by omega, rfl, rfl, by omega, (by show _ = _; rfl), ⟨H4.out.1, H4.out.2.1, H4.out.2.2⟩⟩
        case round =>
          obtain ⟨k, t, hk, rfl, rfl, ht, HK, H⟩ := hrel
          clear H4
          have HTab := Lib.hid (HA.out.2.2.touch H.out.1.touch (fun x => x))
          by_cases hlt : k < c
          · have hbk : (k : Int) < (c : Int) := by omega
            obtain ⟨bl, ob, capx, hv, hcap, hcell⟩ := H.out.2.1.at (k := k) (by rw [List.length_map, H.out.2.2]; exact hlt)
            rw [List.length_map, H.out.2.2] at hv hcap
            injection hv with hv1 hv2 hv3
            subst hv1 hv3
            clear hv2
            go_wp2_with (go_at_call 24; fail)
            refine (set_Next t H.out.1.set HTab.out).mono ?_
            rintro e w5 ⟨o, ho, rfl, rfl⟩
            rw [show (t : Int).toNat = t by omega] at ho
            obtain ⟨x, rfl, hx, htx, hxm, hMx, hl2⟩ := rises_some ht HK.out (by rw [H.out.2.2]; exact hlt) ho
            have hx2 : ((elems M m).map fun (x : Nat) => (x : Int)).getD k 0 = (x : Int) := by
              rw [List.getD_eq_getElem?_getD, List.getElem?_map]
              rw [List.getD_eq_getElem?_getD] at hx
              rw [List.getElem?_eq_getElem (by rw [H.out.2.2]; exact hlt)] at hx ⊢
              have hx' : (elems M m)[k]'(by rw [H.out.2.2]; exact hlt) = x := by simpa using hx
              simp [hx']
            rw [hx2] at hcell
            have HX := Lib.hid (And.intro hMx hl2)
            rw [show (some x).getD 0 = x from rfl, show (some x).isSome = true from rfl]
            clear hMx hl2 hx hx2 ho
            have htx' : ¬ (x : Int) < (t : Int) := by omega
            go_wp2_with (go_at_call 18; fail)
            refine (set_Has x H.out.1.set).mono ?_
            rintro e w5 ⟨rfl, rfl⟩
            rw [show hasB M m x = true by unfold hasB mayB; simp [hxm, HX.out.1]]
            go_wp2
            go_roundw
            case rel => exact ⟨k + 1, x + 1, by omega, by go_num, by go_num, by omega, HX.out.2, H⟩
            case measure => simp [intOf]; omega
          · obtain rfl : k = c := by omega
            go_wp2_with (go_at_call 24; fail)
            refine (set_Next t H.out.1.set HTab.out).mono ?_
            rintro e w5 ⟨o, ho, rfl, rfl⟩
            rw [show (t : Int).toNat = t by omega] at ho
            obtain rfl := rises_none (M := M) (size := m) (by rw [HK.out, H.out.2.2]) ho
            clear ho
            rw [show (none : Option Nat).getD 0 = 0 from rfl, show (none : Option Nat).isSome = false from rfl]
            go_wp2_with (go_at_call 27; fail)
            refine (set_Count H.out.1.set).mono ?_
            rintro e w5 ⟨rfl, rfl⟩
            rw [show cnt M m = k by rw [← elems_len]; exact H.out.2.2]
            go_wp2_with (go_at_call 18; fail)
            refine (set_Has n H.out.1.set).mono ?_
            rintro e w5 ⟨rfl, rfl⟩
            go_wp2_with (go_at_call 30; fail)
            refine (ref01_In _ _ n H.out.2.1 (by rw [List.length_map, H.out.2.2]; omega)).mono ?_
            rintro e w5 ⟨rfl, hT5⟩
            rw [has_mem]
            have H5 := Lib.hid (H.out.1.step hT5)
            clear hT5
            go_wp2_with (go_at_call 15; fail)
            refine (HW.out _ H5.out.touch).mono ?_
            rintro e w6 ⟨rfl, hT6⟩
            go_wp2
            go_ret
            exact ⟨rfl, hT6.below⟩
  · go_enter Tryd.func5, Tryd.ntmps5
    go_wp2_with (go_at_call 15; fail)
    refine (HW.out _ (by repeat (first | with_reducible exact Touch.refl _ _ | with_reducible assumption | with_reducible apply Touch.alloc | with_reducible apply Touch.drewN | with_reducible apply Touch.drew | with_reducible refine Touch.setCell ?_ (.inr (by first | omega | (simp; done) | (simp; omega))) _))).mono ?_
    rintro e w1 ⟨rfl, hT⟩
    go_wp2
    go_ret
    exact ⟨rfl, hT.below⟩
end Go.Proofs.YtjbmpdibjfcafaaDoor
