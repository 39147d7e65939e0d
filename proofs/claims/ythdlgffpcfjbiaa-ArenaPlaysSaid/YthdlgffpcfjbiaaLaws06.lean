/- The arena's laws, walked: None, Keeps. Conditions: none. -/
import Derived.Test.YthdlgffpcfjbiaaArena2
import Derived.OpenShut
namespace Go.Proofs.Ythdlgffpcfjbiaa
open Go.RowKit

theorem arena_New_at (n : Int) (m : Nat) (hm : n = m) (h0 : 1 ≤ n) (h1 : n ≤ 1048576) (w : World) :
    Calls Try.prog 14 #[.int .i64 n] w fun e w' => ∃ p q, e = .returned (.tuple #[.pointer (some ⟨p, 0, none⟩), .int .i64 0]) ∧ Touch nob w w' ∧ w.heap.size ≤ p ∧ w.heap.size ≤ q ∧ ArenaAt w' p q m (List.replicate m 0) 0 0 := by
  subst hm
  exact arena_New_ok m (by omega) w
theorem arena_Store_at (p q cap : Nat) (ws : List Int) (lo st a x : Int) (j : Nat) (w : World) (h : ArenaAt w p q cap ws lo st) (ha : a = j + 1) (hj : j < ws.length) :
    Calls Try.prog 15 #[.pointer (some ⟨p, 0, none⟩), .int .i64 a, .int .u64 x] w fun e w' => e = .returned (.int .i64 0) ∧ Touch (fun b => b = p ∨ b = q) w w' ∧ ArenaAt w' p q cap (ws.set j x) lo (wrap64 (st + 1)) := by
  subst ha
  exact arena_Store_ok p q cap ws lo st x j w h hj
theorem arena_Load_at (p q cap : Nat) (ws : List Int) (lo st a : Int) (j : Nat) (w : World) (h : ArenaAt w p q cap ws lo st) (ha : a = j + 1) (hj : j < ws.length) :
    Calls Try.prog 16 #[.pointer (some ⟨p, 0, none⟩), .int .i64 a] w fun e w' => e = .returned (.tuple #[.int .u64 (ws.getD j 0), .int .i64 0]) ∧ Touch (fun b => b = p) w w' ∧ ArenaAt w' p q cap ws (wrap64 (lo + 1)) st := by
  subst ha
  exact arena_Load_ok p q cap ws lo st j w h hj

theorem law06_awake (w : World) : Calls Try.prog 17 #[] w fun e w' => e = .returned (.bool true) ∧ Touch nob w w' := by
  have h5 : (5 : Int) < 1 ∨ ((List.replicate 4 (0 : Int)).length : Int) < 5 := by simp
  have h4 : (4 : Int) = (3 : Nat) + 1 := rfl
  have hl : 3 < (List.replicate 4 (0 : Int)).length := by simp
  go_enter Try.func17, Try.ntmps17
  go_wp2_with (first | (go_at_call 14; refine (arena_New_at 4 4 rfl (by omega) (by omega) _).mono ?_; rintro e w1 ⟨p, q, rfl, hT, hp, hq, hA⟩) | (go_at_call 15; fail))
  refine (arena_Store_no p q 4 _ _ _ _ _ _ hA (by with_reducible assumption)).mono ?_
  rintro e w2 ⟨rfl, hT2⟩
  rw [show atE (List.replicate 4 (0 : Int)).length 5 = 4 from rfl]
  go_wp2_with (go_at_call 15; fail)
  refine (arena_Store_at p q 4 _ _ _ _ _ 3 _ (hA.touch hT2 (fun x => x) (fun x => x)) (by with_reducible assumption) (by with_reducible assumption)).mono ?_
  rintro e w3 ⟨rfl, hT3, hA3⟩
  go_wp2
  go_ret
  exact ⟨rfl, (hT.trans hT2).step hT3 (fun i hi => .inr (by omega))⟩
set_option maxHeartbeats 400000 in
theorem law_ArenaNone (s : Int) (_ : (Lit.int .i64 s).wf = true) (a : Int) (_ : (Lit.int .i64 a).wf = true) (x : Int) (_ : (Lit.int .u64 x).wf = true) (w : World) :
    Calls Try.prog 11 #[.int .i64 s, .int .i64 a, .int .u64 x] w fun e w' => e = .returned (.bool true) ∧ Below w.heap.size w w' := by
  have HN := Lib.hid (fun w : World => arena_none w)
  rcases (show s < 1 ∨ 1048576 < s ∨ (1 ≤ s ∧ s ≤ 1048576) by omega) with h | h | ⟨h, h'⟩
  all_goals
    go_enter Try.func11, Try.ntmps11
    go_wp2_with (first | (go_at_call 14; refine (arena_New_no _ (by omega) _).mono ?_; rintro e w' ⟨rfl, rfl⟩) | (go_at_call 16; refine ((HN.out _).1 _).mono ?_; rintro e w1 ⟨rfl, hT1⟩) | (go_at_call 15; refine ((HN.out _).2.1 _ _).mono ?_; rintro e w2 ⟨rfl, hT2⟩) | (go_at_call 39; refine ((HN.out _).2.2.1).mono ?_; rintro e w' ⟨rfl, rfl⟩) | (go_at_call 36; refine ((HN.out _).2.2.2.1).mono ?_; rintro e w' ⟨rfl, rfl⟩) | (go_at_call 37; refine ((HN.out _).2.2.2.2.1).mono ?_; rintro e w' ⟨rfl, rfl⟩) | (go_at_call 35; refine ((HN.out _).2.2.2.2.2.1).mono ?_; rintro e w' ⟨rfl, rfl⟩) | (go_at_call 38; refine ((HN.out _).2.2.2.2.2.2).mono ?_; rintro e w' ⟨rfl, rfl⟩) | (go_at_call 17; refine (law06_awake _).mono ?_; rintro e w3 ⟨rfl, hT3⟩))
    go_ret
    exact ⟨rfl, ((hT1.trans hT2).trans hT3).below⟩

/-- What stands in the arena behind k stores of the first loop. -/
def Kp (n k : Nat) : List Int := (List.range n).map fun j => if j < k then (j : Int) + 1 else 0
theorem Kp_zero (n : Nat) : Kp n 0 = List.replicate n 0 := by
  unfold Kp; apply List.ext_getElem <;> simp
theorem Kp_len (n k : Nat) : (Kp n k).length = n := by simp [Kp]
theorem Kp_set (n k : Nat) : (Kp n k).set k ((k : Int) + 1) = Kp n (k + 1) := by
  apply List.ext_getElem
  · simp [Kp]
  · intro i h1 h2
    simp only [Kp, List.getElem_set, List.getElem_map, List.getElem_range]
    by_cases h : k = i
    · subst h; simp
    · rw [if_neg h]
      by_cases h3 : i < k
      · rw [if_pos h3, if_pos (by omega)]
      · rw [if_neg h3, if_neg (by omega)]
theorem Kp_get {n j : Nat} (hj : j < n) : (Kp n n).getD j 0 = (j : Int) + 1 := by
  simp [Kp, hj]

theorem atE_no {n : Nat} {a : Int} (h : a < 1 ∨ (n : Int) < a) : atE n a ≠ 0 := by
  unfold atE
  split
  · omega
  · rw [if_pos (by omega)]; omega

set_option maxHeartbeats 1000000 in
theorem law_ArenaKeeps (s : Int) (hs : (Lit.int .u8 s).wf = true) (x : Int) (_ : (Lit.int .i64 x).wf = true) (y : Int) (_ : (Lit.int .i64 y).wf = true) (v : Int) (_ : (Lit.int .u64 v).wf = true) (w : World) :
    Calls Try.prog 3 #[.int .u8 s, .agg #[.int .i64 x, .int .i64 y], .int .u64 v] w fun e w' => e = .returned (.bool true) ∧ Below w.heap.size w w' := by
  obtain ⟨s0, s1⟩ := bounds_u8 hs
  clear hs
  obtain ⟨m, hm⟩ : ∃ m : Nat, s.tmod 60 = m := ⟨(s.tmod 60).toNat, by have := Int.tmod_nonneg 60 s0; omega⟩
  have hm60 : m < 60 := by have := Int.tmod_lt_of_pos s (show (0 : Int) < 60 by omega); omega
  go_enter Try.func3, Try.ntmps3
  go_wp2_with fail
  obtain ⟨W, hW⟩ : ∃ W, W = w.alloc (Obj.cells #[.int .i64 x, .int .i64 y] 22) := ⟨_, rfl⟩
  rw [← hW]
  obtain ⟨c0, c1, _⟩ := box2 (show W.heap[w.heap.size]? = some _ by rw [hW]; exact World.alloc_heap_new w _)
  have hT : Touch nob w W := by rw [hW]; repeat (first | with_reducible exact Touch.refl _ _ | with_reducible assumption | with_reducible apply Touch.alloc | with_reducible apply Touch.drewN | with_reducible apply Touch.drew | with_reducible refine Touch.setCell ?_ (.inr (by first | omega | (simp; done) | (simp; omega))) _)
  clear hW
  go_quiet (fail)
  go_wp2_with (go_at_call 14; fail)
  refine (arena_New_at _ (1 + m) (by omega) (by omega) (by omega) _).mono ?_
  rintro e w1 ⟨p, q, rfl, hT1, hp1, hq1, hA⟩
  have hp : w.heap.size ≤ p := Nat.le_trans hT.size hp1
  have hq : w.heap.size ≤ q := Nat.le_trans hT.size hq1
  have hT01 : Touch nob w w1 := (hT.drewN nq).trans hT1
  rw [← Kp_zero] at hA
  clear hT hT1 hp1 hq1 c0 c1
  go_wp2_with fail
  go_loopw [12] (fun i wr => ∃ k : Nat, k ≤ 1 + m ∧ i = .int .i64 (k + 1) ∧ Touch nob w wr ∧ ∃ st, ArenaAt wr p q (1 + m) (Kp (1 + m) k) 0 st) (fun i _ => 1 + m + 2 - (intOf i).toNat)
  case atStart => exact ⟨0, by omega, rfl, hT01, 0, hA⟩
  case round =>
    obtain ⟨k, hk, rfl, hTr, st, hAr⟩ := hrel
    clear hT01 hA
    by_cases hlt : k < 1 + m
    · go_wp2_with (go_at_call 15; fail)
      refine (arena_Store_at p q _ _ _ _ _ _ k _ hAr rfl (by rw [Kp_len]; exact hlt)).mono ?_
      rintro e w2 ⟨rfl, hT2, hA2⟩
      rw [Kp_set] at hA2
      go_wp2
      go_roundw
      case rel => exact ⟨k + 1, by omega, by go_num, hTr.step hT2 (fun i hi => .inr (by omega)), _, hA2⟩
      case measure => simp [intOf]; omega
    · obtain rfl : k = 1 + m := by omega
      clear hlt hk
      have hnl : ¬ (((1 + m : Nat) : Int) + 1 ≤ 1 + m) := by omega
      go_wp2_with (go_at_call 15; fail)
      clear hnl
      obtain ⟨ws, hws⟩ : ∃ ws, Kp (1 + m) (1 + m) = ws := ⟨_, rfl⟩
      have HLEN : Hid (ws.length = 1 + m ∧ ∀ j, j < 1 + m → ws.getD j 0 = (j : Int) + 1) := by rw [← hws]; exact ⟨Kp_len _ _, fun j hj => Kp_get hj⟩
      rw [hws] at hAr
      clear hws
      by_cases hx : 1 ≤ x ∧ x ≤ 1 + m
      · obtain ⟨x0, x1⟩ := hx
        obtain ⟨i, hi⟩ : ∃ i : Nat, x = i + 1 := ⟨(x - 1).toNat, by omega⟩
        have HI := Lib.hid hi
        clear hi
        refine (arena_Store_at p q _ _ _ _ _ _ i _ hAr HI.out (by rw [HLEN.out.1]; have := HI.out; omega)).mono ?_
        rintro e w2 ⟨rfl, hT2, hA2⟩
        have hTs : Touch nob w w2 := hTr.step hT2 (fun i hi => .inr (by omega))
        have HLEN2 : Hid ((ws.set i v).length = 1 + m) := by show (ws.set i v).length = 1 + m; rw [List.length_set]; exact HLEN.out.1
        clear hAr hTr hT2
        by_cases hy : 1 ≤ y ∧ y ≤ 1 + m
        · obtain ⟨y0, y1⟩ := hy
          obtain ⟨j, hj⟩ : ∃ j : Nat, y = j + 1 := ⟨(y - 1).toNat, by omega⟩
          have HJ := Lib.hid hj
          clear hj
          go_wp2_with (go_at_call 16; fail)
          refine (arena_Load_at p q _ _ _ _ _ j _ hA2 HJ.out (by rw [HLEN2.out]; have := HJ.out; omega)).mono ?_
          rintro e w3 ⟨rfl, hT3, hA3⟩
          have hTs3 : Touch nob w w3 := hTs.step hT3 (fun i hi => .inr (by omega))
          by_cases hxy : y = x
          · rw [show (ws.set i v).getD j 0 = v by
              obtain rfl : j = i := by have := HI.out; have := HJ.out; omega
              have : j < (ws.set j v).length := by rw [HLEN2.out]; have := HJ.out; omega
              simp at this
              simp [List.getD_eq_getElem?_getD, this]]
            subst hxy
            clear hA2 hA3 hT3 hTs
            go_wp2_with (go_at_call 17; refine (law06_awake _).mono ?_; rintro e w4 ⟨rfl, hT4⟩)
            go_ret
            exact ⟨by first | rfl | exact ret_b (by simp [hE]), (hTs3.trans hT4).below⟩
          rw [show (ws.set i v).getD j 0 = y by
            have hij : i ≠ j := by have := HI.out; have := HJ.out; omega
            have h9 := HLEN.out.2 j (by have := HJ.out; omega)
            rw [List.getD_eq_getElem?_getD] at h9 ⊢
            rw [List.getElem?_set_ne hij, h9]; exact HJ.out.symm]
          clear hA2 hA3 hT3 hTs
          go_wp2_with (go_at_call 17; refine (law06_awake _).mono ?_; rintro e w4 ⟨rfl, hT4⟩)
          go_ret
          exact ⟨rfl, (hTs3.trans hT4).below⟩
        · have hyn : y < 1 ∨ 1 + m < y := by omega
          have HY := Lib.hid hyn
          clear hy
          go_wp2_with (go_at_call 16; fail)
          refine (arena_Load_no p q _ _ _ _ _ _ hA2 (by rw [HLEN2.out]; have := HY.out; omega)).mono ?_
          rintro e w3 ⟨rfl, hT3⟩
          have hE := atE_no (n := (ws.set i v).length) (a := y) (by rw [HLEN2.out]; omega)
          obtain ⟨f, hf⟩ : ∃ f, atE (ws.set i v).length y = f := ⟨_, rfl⟩
          rw [hf] at hE ⊢
          have hTs3 : Touch nob w w3 := hTs.trans hT3
          clear hA2 hf hTs hT3
          rcases hyn with hyn | hyn
          · go_wp2_with (go_at_call 17; refine (law06_awake _).mono ?_; rintro e w4 ⟨rfl, hT4⟩)
            go_ret
            exact ⟨by first | rfl | exact ret_b (by simp [hE]), (hTs3.trans hT4).below⟩
          · go_wp2_with (go_at_call 17; refine (law06_awake _).mono ?_; rintro e w4 ⟨rfl, hT4⟩)
            go_ret
            exact ⟨by first | rfl | exact ret_b (by simp [hE]), (hTs3.trans hT4).below⟩
      · have HXN : Hid (x < 1 ∨ 1 + m < x) := by show x < 1 ∨ 1 + m < x; omega
        clear hx
        refine (arena_Store_no p q _ _ _ _ _ _ _ hAr (by rw [HLEN.out.1]; have := HXN.out; omega)).mono ?_
        rintro e w2 ⟨rfl, hT2⟩
        have hEx := atE_no (n := ws.length) (a := x) (by rw [HLEN.out.1]; have := HXN.out; omega)
        obtain ⟨fx, hfx⟩ : ∃ f, atE ws.length x = f := ⟨_, rfl⟩
        rw [hfx] at hEx ⊢
        have hTs : Touch nob w w2 := hTr.trans hT2
        have hA2 := hAr.touch hT2 (fun x => x) (fun x => x)
        have HLEN2 : Hid (ws.length = 1 + m) := HLEN.out.1
        clear hAr hTr hT2 hfx
        by_cases hy : 1 ≤ y ∧ y ≤ 1 + m
        · obtain ⟨y0, y1⟩ := hy
          obtain ⟨j, hj⟩ : ∃ j : Nat, y = j + 1 := ⟨(y - 1).toNat, by omega⟩
          have HJ := Lib.hid hj
          clear hj
          go_wp2_with (go_at_call 16; fail)
          refine (arena_Load_at p q _ _ _ _ _ j _ hA2 HJ.out (by rw [HLEN2.out]; have := HJ.out; omega)).mono ?_
          rintro e w3 ⟨rfl, hT3, hA3⟩
          have hTs3 : Touch nob w w3 := hTs.step hT3 (fun i hi => .inr (by omega))
          rw [show ws.getD j 0 = y by rw [HLEN.out.2 j (by have := HJ.out; omega)]; exact HJ.out.symm]
          clear hA2 hA3 hT3 hTs
          go_wp2_with (go_at_call 17; refine (law06_awake _).mono ?_; rintro e w4 ⟨rfl, hT4⟩)
          go_ret
          exact ⟨rfl, (hTs3.trans hT4).below⟩
        · have hyn : y < 1 ∨ 1 + m < y := by omega
          have HY := Lib.hid hyn
          clear hy
          go_wp2_with (go_at_call 16; fail)
          refine (arena_Load_no p q _ _ _ _ _ _ hA2 (by rw [HLEN2.out]; have := HY.out; omega)).mono ?_
          rintro e w3 ⟨rfl, hT3⟩
          have hE := atE_no (n := ws.length) (a := y) (by rw [HLEN2.out]; omega)
          obtain ⟨f, hf⟩ : ∃ f, atE ws.length y = f := ⟨_, rfl⟩
          rw [hf] at hE ⊢
          have hTs3 : Touch nob w w3 := hTs.trans hT3
          clear hA2 hf hTs hT3
          rcases hyn with hyn | hyn
          · go_wp2_with (go_at_call 17; refine (law06_awake _).mono ?_; rintro e w4 ⟨rfl, hT4⟩)
            go_ret
            exact ⟨by first | rfl | exact ret_b (by simp [hE]), (hTs3.trans hT4).below⟩
          · go_wp2_with (go_at_call 17; refine (law06_awake _).mono ?_; rintro e w4 ⟨rfl, hT4⟩)
            go_ret
            exact ⟨by first | rfl | exact ret_b (by simp [hE]), (hTs3.trans hT4).below⟩
end Go.Proofs.Ythdlgffpcfjbiaa
