/- The law BitsSames, walked. Conditions: the library's table reads as laid. -/
import Derived.Test.YtjbmpdibjfcafaaDoorAwake1
import Derived.OpenShut
namespace Go.Proofs.YtjbmpdibjfcafaaDoor
open Go.RowKit

theorem IntsIn.at {w : World} {v : Value} {xs : List Int} (h : IntsIn w v xs) {k : Nat} (hk : k < xs.length) : ∃ b o cap, v = .slice (some ⟨b, o, none⟩) xs.length cap ∧ xs.length ≤ cap ∧ w.cell? ⟨b, o + k, none⟩ = some (.int .i64 (xs.getD k 0)) := by
  obtain ⟨ao, cap, rfl, h | ⟨b, o, rfl, hc, h⟩⟩ := h
  · subst h; simp at hk
  · exact ⟨b, o, cap, rfl, hc, h k hk⟩
theorem IntsIn.shape {w : World} {v : Value} {xs : List Int} (h : IntsIn w v xs) : ∃ ao cap, v = .slice ao xs.length cap := by
  obtain ⟨ao, cap, rfl, _⟩ := h
  exact ⟨ao, cap, rfl⟩
/-- Two sets apart from each other, and new. -/
structure Two (w wr : World) (p q cap p' q' cap' s0 s1 : Nat) (ws us : List Nat) (A B : Nat → Bool) : Prop where
  touch : Touch nob w wr
  hp : w.heap.size ≤ p
  hq : w.heap.size ≤ q
  hp' : w.heap.size ≤ p'
  hq' : w.heap.size ≤ q'
  apart : p ≠ q' ∧ q ≠ p' ∧ q ≠ q'
  left : SetAt wr p q cap ws s0 A
  right : SetAt wr p' q' cap' us s1 B
variable {w wr : World} {p q cap p' q' cap' s0 s1 : Nat} {ws us : List Nat} {A B : Nat → Bool}
theorem Two.step {w' : World} (h : Two w wr p q cap p' q' cap' s0 s1 ws us A B) (ht : Touch nob wr w') : Two w w' p q cap p' q' cap' s0 s1 ws us A B :=
  ⟨h.touch.trans ht, h.hp, h.hq, h.hp', h.hq', h.apart, h.left.touch ht (fun x => x) (fun x => x), h.right.touch ht (fun x => x) (fun x => x)⟩
theorem two_PutL (n : Int) (b : Bool) (h : Two w wr p q cap p' q' cap' s0 s1 ws us A B) :
    Calls Tryd.prog 17 #[.pointer (some ⟨p, 0, none⟩), .int .i64 n, .bool b] wr fun e w' => ∃ ws', e = .returned (.bool (putB A s0 n b)) ∧ Two w w' p q cap p' q' cap' s0 s1 ws' us (putM A s0 n b) B :=
  (set_Put n b h.left).mono fun _ _ ⟨ws', g1, g2, g3⟩ => ⟨ws', g1, h.touch.step g2 (fun i hi => .inr (by rw [hi]; exact h.hq)), h.hp, h.hq, h.hp', h.hq', h.apart, g3, h.right.touch g2 h.apart.2.1.symm h.apart.2.2.symm⟩
theorem two_PutR (n : Int) (b : Bool) (h : Two w wr p q cap p' q' cap' s0 s1 ws us A B) :
    Calls Tryd.prog 17 #[.pointer (some ⟨p', 0, none⟩), .int .i64 n, .bool b] wr fun e w' => ∃ us', e = .returned (.bool (putB B s1 n b)) ∧ Two w w' p q cap p' q' cap' s0 s1 ws us' A (putM B s1 n b) :=
  (set_Put n b h.right).mono fun _ _ ⟨us', g1, g2, g3⟩ => ⟨us', g1, h.touch.step g2 (fun i hi => .inr (by rw [hi]; exact h.hq')), h.hp, h.hq, h.hp', h.hq', h.apart, h.left.touch g2 h.apart.1 h.apart.2.2, g3⟩

def allB (A B : Nat → Bool) (s0 s1 : Nat) : Nat → Bool
  | 0 => decide (s0 = s1)
  | n + 1 => allB A B s0 s1 n && (hasB A s0 n == hasB B s1 n)
theorem allB_iff : ∀ {n : Nat}, allB A B s0 s1 n = true ↔ s0 = s1 ∧ ∀ k, k < n → hasB A s0 k = hasB B s1 k
  | 0 => by simp [allB]
  | n + 1 => by
    unfold allB
    rw [Bool.and_eq_true, allB_iff]
    constructor
    · rintro ⟨⟨h1, h2⟩, h3⟩
      refine ⟨h1, fun k hk => ?_⟩
      by_cases hkn : k = n
      · subst hkn; simpa using h3
      · exact h2 k (by omega)
    · rintro ⟨h1, h2⟩
      exact ⟨⟨h1, fun k hk => h2 k (by omega)⟩, by simpa using h2 n (by omega)⟩
theorem same_all (h : Two w wr p q cap p' q' cap' s0 s1 ws us A B) (h0 : s0 < 256) : sameB ws us s0 s1 = allB A B s0 s1 256 := by
  apply Bool.eq_iff_iff.2
  rw [allB_iff]
  unfold sameB
  simp only [Bool.and_eq_true, decide_eq_true_eq]
  constructor
  · rintro ⟨rfl, h2⟩
    refine ⟨rfl, fun k _ => ?_⟩
    unfold hasB mayB
    by_cases hk : k < s0
    · have := (h.left.rep.eq h.right.rep).1 h2 k hk
      simp [hk, this]
    · simp [hk]
  · rintro ⟨rfl, h2⟩
    refine ⟨rfl, (h.left.rep.eq h.right.rep).2 fun k hk => ?_⟩
    have := h2 k (by omega)
    unfold hasB mayB at this
    simpa [hk] using this
theorem sameB_symm : sameB us ws s1 s0 = sameB ws us s0 s1 := by
  unfold sameB
  rw [show decide (s1 = s0) = decide (s0 = s1) by rw [decide_eq_decide]; exact ⟨Eq.symm, Eq.symm⟩, show decide (us = ws) = decide (ws = us) by rw [decide_eq_decide]; exact ⟨Eq.symm, Eq.symm⟩]
theorem sameB_refl : sameB ws ws s0 s0 = true := by simp [sameB]

set_option maxRecDepth 20000 in
set_option maxHeartbeats 4000000 in
theorem law_BitsSames {w : World} (z0 : Int) (hz0 : (Lit.int .u8 z0).wf = true) (z1 : Int) (hz1 : (Lit.int .u8 z1).wf = true) (a : Value) (arows : List (List Value)) (ha : IsSlice w a [some .i64] arows) (b : Value) (brows : List (List Value)) (hb : IsSlice w b [some .i64] brows) (hTab : Tab w) :
    Calls Tryd.prog 3 #[.agg #[.int .u8 z0, .int .u8 z1], a, b] w fun e w' => e = .returned (.bool true) ∧ Below w.heap.size w w' := by
  obtain ⟨z00, z01⟩ := bounds_u8 hz0
  obtain ⟨z10, z11⟩ := bounds_u8 hz1
  obtain ⟨s0, rfl⟩ := Int.eq_ofNat_of_zero_le z00
  obtain ⟨s1, rfl⟩ := Int.eq_ofNat_of_zero_le z10
  clear hz0 hz1 z00 z10
  obtain ⟨la, hA, _, _⟩ := ints_of_slice ha
  obtain ⟨lb, hB, _, _⟩ := ints_of_slice hb
  clear ha hb
  obtain ⟨aoa, capa, rfl⟩ := hA.shape
  obtain ⟨aob, capb, rfl⟩ := hB.shape
  obtain ⟨na, hna⟩ : ∃ n, la.length = n := ⟨_, rfl⟩
  obtain ⟨nb, hnb⟩ : ∃ n, lb.length = n := ⟨_, rfl⟩
  have HA := Lib.hid (And.intro hA (And.intro hna (And.intro hB (And.intro hnb hTab))))
  rw [hna, hnb]
  clear hA hna hB hnb hTab
  have awake : ∀ wr, Touch nob w wr → Calls Tryd.prog 15 #[] wr fun e w' => e = .returned (.bool true) ∧ Touch nob w w' := fun wr ht =>
    (law01_awake wr (HA.out.2.2.2.2.touch ht (fun x => x))).mono fun _ _ g => ⟨g.1, ht.trans g.2⟩
  have HW := Lib.hid awake
  clear awake
  by_cases hga : na ≤ 60
  · by_cases hgb : nb ≤ 60
    · go_enter Tryd.func3, Tryd.ntmps3
      go_wp2_with (go_at_call 16; fail)
      obtain ⟨W1, hW1⟩ : ∃ W1, W1 = w.alloc (Obj.cells #[Value.int IntKind.u8 (s0 : Int), Value.int IntKind.u8 (s1 : Int)] 22) := ⟨_, rfl⟩
      rw [← hW1]
      have h01 : Touch nob w W1 := by rw [hW1]; exact (Touch.refl _ _).alloc _
      have hcW : W1.heap[w.heap.size]? = some (Obj.cells #[Value.int IntKind.u8 (s0 : Int), Value.int IntKind.u8 (s1 : Int)] 22) := by rw [hW1]; exact World.alloc_heap_new w _
      obtain ⟨n0, hn0⟩ : ∃ n, n = w.heap.size := ⟨_, rfl⟩
      rw [← hn0] at hcW ⊢
      have HC := Lib.hid (fun wr (ht : Touch nob W1 wr) => And.intro (h01.trans ht) (box2 (blk_touch hcW ht (fun x => x))))
      clear hW1 hcW h01
      refine (bits_New_ok s0 (by omega) W1).mono ?_
      rintro e w1 ⟨p, q, cap, ws, rfl, hT1, hp, hq, hS⟩
      have HH := Lib.hid hn0
      obtain ⟨_, c0, c1, f0, f1⟩ := HC.out w1 hT1
      have H1 := Lib.hid (And.intro hT1 (And.intro hp (And.intro hq hS)))
      clear hT1 hp hq hS hn0
      go_wp2_with (go_at_call 16; fail)
      clear c0 c1 f0 f1
      refine (bits_New_ok s1 (by omega) w1).mono ?_
      rintro e w2 ⟨p', q', cap', us, rfl, hT2, hp', hq', hS'⟩
      have hs1 := H1.out.1.size
      have hpl := (Array.getElem?_eq_some_iff.1 H1.out.2.2.2.box).1
      have hql : q < w1.heap.size := by obtain ⟨_, hh, _⟩ := H1.out.2.2.2.row; exact (Array.getElem?_eq_some_iff.1 hh).1
      have h0 : Hid (Two W1 w2 p q cap p' q' cap' s0 s1 ws us (fun _ => false) (fun _ => false)) := ⟨H1.out.1.trans hT2, H1.out.2.1, H1.out.2.2.1, by omega, by omega, by omega, H1.out.2.2.2.touch hT2 (fun x => x) (fun x => x), hS'⟩
      clear hT2 hp' hq' hS' hs1 hpl hql
      go_wp2_with fail
      go_loopw [11] (fun i wr => ∃ k : Nat, k ≤ na ∧ i = .int .i64 k ∧ Hid (∃ ws us A B, Two W1 wr p q cap p' q' cap' s0 s1 ws us A B)) (fun i _ => na - (intOf i).toNat)
      case atStart => exact ⟨0, by omega, rfl, _, _, _, _, h0.out⟩
      case round =>
        obtain ⟨k, hk, rfl, HT⟩ := hrel
        clear h0
        obtain ⟨ws1, us1, A, B, h1⟩ := HT.out
        by_cases hlt : k < na
        · obtain ⟨bl, ob, capx, hv, hcap, hcell⟩ := ((HA.out.1).old (HC.out _ h1.touch).1).at (k := k) (by rw [HA.out.2.1]; exact hlt)
          rw [HA.out.2.1] at hv hcap
          injection hv with hv1 hv2 hv3
          subst hv1 hv3
          obtain ⟨x, hx⟩ : ∃ x, la.getD k 0 = x := ⟨_, rfl⟩
          rw [hx] at hcell
          have hbk : (k : Int) < (na : Int) := by omega
          clear hv2 hx
          have H := Lib.hid h1
          clear h1 HT
          go_wp2_with (go_at_call 17; fail)
          refine (two_PutL x true H.out).mono ?_
          rintro e w3 ⟨ws2, rfl, h2⟩
          have H2 := Lib.hid h2
          clear h2 hcell
          go_wp2
          go_roundw
          case rel => exact ⟨k + 1, by omega, by go_num, _, _, _, _, H2.out⟩
          case measure => simp [intOf]; omega
        · clear HT
          have H := Lib.hid h1
          clear h1
          go_wp2_with fail
          go_loopw [12] (fun i wr => ∃ k : Nat, k ≤ nb ∧ i = .int .i64 k ∧ Hid (∃ ws us A B, Two W1 wr p q cap p' q' cap' s0 s1 ws us A B)) (fun i _ => nb - (intOf i).toNat)
          case atStart => exact ⟨0, by omega, rfl, _, _, _, _, H.out⟩
          case round =>
            obtain ⟨k, hk, rfl, HT⟩ := hrel
            clear H
            obtain ⟨ws1, us1, A, B, h1⟩ := HT.out
            by_cases hlt : k < nb
            · obtain ⟨bl, ob, capx, hv, hcap, hcell⟩ := ((HA.out.2.2.1).old (HC.out _ h1.touch).1).at (k := k) (by rw [HA.out.2.2.2.1]; exact hlt)
              rw [HA.out.2.2.2.1] at hv hcap
              injection hv with hv1 hv2 hv3
              subst hv1 hv3
              obtain ⟨x, hx⟩ : ∃ x, lb.getD k 0 = x := ⟨_, rfl⟩
              rw [hx] at hcell
              have hbk : (k : Int) < (nb : Int) := by omega
              clear hv2 hx
              have H := Lib.hid h1
              clear h1 HT
              go_wp2_with (go_at_call 17; fail)
              refine (two_PutR x true H.out).mono ?_
              rintro e w3 ⟨ws2, rfl, h2⟩
              have H2 := Lib.hid h2
              clear h2 hcell
              go_wp2
              go_roundw
              case rel => exact ⟨k + 1, by omega, by go_num, _, _, _, _, H2.out⟩
              case measure => simp [intOf]; omega
            · clear HT
              have H := Lib.hid h1
              obtain ⟨_, c0, c1, f0, f1⟩ := HC.out _ h1.touch
              clear h1
              obtain ⟨hs0, hs1⟩ : s0 < 256 ∧ s1 < 256 := by omega
              go_wp2_with fail
              clear c0 c1 f0 f1
              rename_i wz _ _ _ _ _ _
              go_loopw [13, 14] (fun sm i wr => ∃ k : Nat, k ≤ 256 ∧ i = .int .i64 k ∧ sm = .bool (allB A B s0 s1 k) ∧ Hid (Two W1 wr p q cap p' q' cap' s0 s1 ws1 us1 A B)) (fun _ i _ => 256 - (intOf i).toNat)
              case atStart => exact ⟨0, by omega, rfl, by (show Value.bool ((s0 : Int) == (s1 : Int)) = Value.bool (decide (s0 = s1))); by_cases h : s0 = s1 <;> simp [h]; omega, H⟩
              case round =>
                obtain ⟨k, hk, rfl, rfl, H⟩ := hrel
                by_cases hlt : k < 256
                · have hbk : (k : Int) < 256 := by omega
                  go_wp2_with (go_at_call 18; fail)
                  refine (set_Has k H.out.left).mono ?_
                  rintro e w3 ⟨rfl, rfl⟩
                  go_wp2_with (go_at_call 18; fail)
                  refine (set_Has k H.out.right).mono ?_
                  rintro e w3 ⟨rfl, rfl⟩
                  obtain ⟨x, hx⟩ : ∃ x, hasB A s0 k = x := ⟨_, rfl⟩
                  obtain ⟨y, hy⟩ : ∃ y, hasB B s1 k = y := ⟨_, rfl⟩
                  have HX : Hid (allB A B s0 s1 (k + 1) = (allB A B s0 s1 k && (x == y))) := by show _ = _; rw [← hx, ← hy]; rfl
                  rw [hx, hy]
                  clear hx hy
                  cases x <;> cases y
                  all_goals
                    go_wp2
                    go_roundw
                    case rel => exact ⟨k + 1, by omega, by go_num, by rw [HX.out]; simp, H⟩
                    case measure => simp [intOf]; omega
                · obtain rfl : k = 256 := by omega
                  have HE := Lib.hid (same_all H.out (by omega))
                  obtain ⟨v, hv⟩ : ∃ v, allB A B s0 s1 256 = v := ⟨_, rfl⟩
                  rw [hv] at HE ⊢
                  clear hv
                  go_wp2_with (go_at_call 19; fail)
                  refine (set_Same H.out.left H.out.right).mono ?_
                  rintro e w3 ⟨rfl, hT3⟩
                  rw [HE.out]
                  have H3 := Lib.hid (H.out.step hT3)
                  clear H hT3
                  cases v
                  all_goals
                    go_wp2_with (go_at_call 19; fail)
                    refine (set_Same H3.out.right H3.out.left).mono ?_
                    rintro e w4 ⟨rfl, hT4⟩
                    rw [sameB_symm, HE.out]
                    have H4 := Lib.hid (H3.out.step hT4)
                    clear H3 hT4
                    go_wp2_with (go_at_call 19; fail)
                    refine (set_Same H4.out.left H4.out.left).mono ?_
                    rintro e w5 ⟨rfl, hT5⟩
                    rw [sameB_refl]
                    have H5 := Lib.hid (H4.out.step hT5)
                    clear H4 hT5
                    go_wp2_with (go_at_call 15; fail)
                    refine (HW.out _ (HC.out _ H5.out.touch).1).mono ?_
                    rintro e w6 ⟨rfl, hT6⟩
                    go_wp2
                    go_ret
                    exact ⟨rfl, hT6.below⟩
    · go_enter Tryd.func3, Tryd.ntmps3
      go_wp2_with (go_at_call 15; fail)
      refine (HW.out _ (by repeat (first | with_reducible exact Touch.refl _ _ | with_reducible assumption | with_reducible apply Touch.alloc | with_reducible apply Touch.drewN | with_reducible apply Touch.drew | with_reducible refine Touch.setCell ?_ (.inr (by first | omega | (simp; done) | (simp; omega))) _))).mono ?_
      rintro e w1 ⟨rfl, hT⟩
      go_wp2
      go_ret
      exact ⟨rfl, hT.below⟩
  · go_enter Tryd.func3, Tryd.ntmps3
    go_wp2_with (go_at_call 15; fail)
    refine (HW.out _ (by repeat (first | with_reducible exact Touch.refl _ _ | with_reducible assumption | with_reducible apply Touch.alloc | with_reducible apply Touch.drewN | with_reducible apply Touch.drew | with_reducible refine Touch.setCell ?_ (.inr (by first | omega | (simp; done) | (simp; omega))) _))).mono ?_
    rintro e w1 ⟨rfl, hT⟩
    go_wp2
    go_ret
    exact ⟨rfl, hT.below⟩
end Go.Proofs.YtjbmpdibjfcafaaDoor
