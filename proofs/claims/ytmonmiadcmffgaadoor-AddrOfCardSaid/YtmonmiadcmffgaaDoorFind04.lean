/- The document's Find, walked: what the program's Find returns. Conditions: none. -/
import Derived.Test.YtmonmiadcmffgaaDoorRef04
namespace Go.Proofs.YtmonmiadcmffgaaDoor
open Go.RowKit Go.Sort

theorem pl_box2 {W : World} {b : Nat} {t : TypeId} {x y z : Int} (h : W.heap[b]? = some (Obj.cells #[.int .i64 x, .int .i64 y, .int .i64 z] t)) {w' : World} (ht : Touch nob W w') :
    w'.cell? ⟨b, 0, none⟩ = some (.int .i64 x) ∧ w'.cell? ⟨b, 1, none⟩ = some (.int .i64 y) ∧ w'.cell? ⟨b, 2, none⟩ = some (.int .i64 z) ∧ w'.frozen? ⟨b, 0, none⟩ = false ∧ w'.frozen? ⟨b, 1, none⟩ = false ∧ w'.frozen? ⟨b, 2, none⟩ = false := by
  have hb := (Array.getElem?_eq_some_iff.1 h).1
  have e := (ht.block b hb (fun x => x)).trans h
  simp [World.cell?, World.frozen?, e]

set_option maxHeartbeats 1000000 in
theorem ref04_Find (c0 c1 c2 c3 c4 c5 c6 k a : Int) (w : World) :
    Calls Tryd.prog 46 #[CfgV c0 c1 c2 c3 c4 c5 c6, .int .i64 k, .int .i64 a] w fun e w' => e = .returned (.tuple #[fdV c1 k a (fdOk c0 c1 c2 c3 c4 c5 c6 k a), .bool (fdOk c0 c1 c2 c3 c4 c5 c6 k a)]) ∧ Below w.heap.size w w' := by
  have HX : Hid (∀ f, fdOk c0 c1 c2 c3 c4 c5 c6 k a = f → fdV c1 k a (fdOk c0 c1 c2 c3 c4 c5 c6 k a) = fdV c1 k a f) := fun f h => by rw [h]
  go_enter Tryd.func46, Tryd.ntmps46
  go_wp2_with fail
  obtain ⟨W, hW⟩ : ∃ W, W = (w.alloc (Obj.cells (CfgRow c0 c1 c2 c3 c4 c5 c6) 32)).alloc (Obj.cells #[.int .i64 0, .int .i64 0, .int .i64 0] 54) := ⟨_, rfl⟩
  obtain ⟨n, hn⟩ : ∃ n, n = w.heap.size := ⟨_, rfl⟩
  rw [← hW, ← hn]
  have hr : W.heap[n]? = some (Obj.cells (CfgRow c0 c1 c2 c3 c4 c5 c6) 32) := by rw [hW, hn]; exact (alloc2_0 w _ _).trans rfl
  have hr2 : W.heap[n + 1]? = some (Obj.cells #[.int .i64 0, .int .i64 0, .int .i64 0] 54) := by rw [hW, hn]; exact alloc2_1 w _ _
  have HT : Hid (Touch nob w W ∧ n = w.heap.size) := by show Touch nob w W ∧ n = w.heap.size; rw [hW]; exact ⟨((Touch.refl _ _).alloc _).alloc _, hn⟩
  have HR := Lib.hid (And.intro hr hr2)
  have HB := Lib.hid (fun w' ht => cfg_box hr (w' := w') ht)
  have HB2 := Lib.hid (fun w' ht => pl_box2 hr2 (w' := w') ht)
  have HN : Hid (w.heap.size ≤ n + 1) := by show w.heap.size ≤ n + 1; omega
  have hT := Touch.refl nob W
  clear hW hn hr hr2
  have HMB : Hid (cfgOk c0 c1 c2 c3 c4 c5 c6 = true → 0 ≤ c0 * c1 ∧ c0 * c1 ≤ 1048576) := fun h => by
    obtain ⟨⟨u0, v0⟩, ⟨u1, v1⟩, _⟩ := cfgOk_iff.1 h
    exact mul_bd (a := c0) (b := c1) (A := 4096) (B := 256) (by omega) (by omega) (by omega) (by omega)
  cases hb : blkOk c0 c1 c2 c3 c4 c5 c6 a && isCls k
  · have HF : Hid (fdOk c0 c1 c2 c3 c4 c5 c6 k a = false) := by
      show fdOk c0 c1 c2 c3 c4 c5 c6 k a = false
      unfold fdOk; cases hh : isCls k
      · simp
      · rw [hh] at hb; simp at hb; rw [hb]; rfl
    rcases (show cfgOk c0 c1 c2 c3 c4 c5 c6 = false ∨ (cfgOk c0 c1 c2 c3 c4 c5 c6 = true ∧ isCls k = false) ∨ (cfgOk c0 c1 c2 c3 c4 c5 c6 = true ∧ isCls k = true ∧ a < 1) ∨ (cfgOk c0 c1 c2 c3 c4 c5 c6 = true ∧ isCls k = true ∧ 1 ≤ a ∧ c0 * c1 < a) by
      cases hc : cfgOk c0 c1 c2 c3 c4 c5 c6
      · exact .inl rfl
      · cases hh : isCls k
        · exact .inr (.inl ⟨rfl, rfl⟩)
        · have hx : ¬ (1 ≤ a ∧ a ≤ c0 * c1) := fun h => by
            have := blkOk_iff.2 ⟨hc, h⟩
            rw [this, hh] at hb; exact absurd hb (by decide)
          simp only [true_and]
          refine .inr (.inr ?_)
          omega) with h1 | ⟨h1, h2⟩ | ⟨h1, h2, h3⟩ | ⟨h1, h2, h3, h4⟩
    · have HC := Lib.hid h1
      clear h1 hb
      go_wp2_with (go_at_call 26; refine (ref02_Right c0 c1 c2 c3 c4 c5 c6 _).mono ?_; rintro e w1 ⟨rfl, hb1⟩; have hT1 := Touch.trans (S := nob) (by assumption) (Touch.of_below hb1); clear hb1; rw [HC.out]; obtain ⟨k0, k1, k2, k3, k4, k5, k6⟩ := HB.out _ hT1; obtain ⟨p0, p1, p2, g0, g1, g2⟩ := HB2.out _ hT1)
      refine bodyPost_ret (v := .tuple #[PlV 0 0 0, .bool false]) (by simp [results, Tryd.results46, go_sem, p0, p1, p2]) rfl ⟨by rw [HF.out]; rfl, Touch.below ?_⟩
      repeat (first | with_reducible exact HT.out.1.trans (by assumption) | refine Touch.setCell ?_ (.inr HN.out) _)
    · have HC := Lib.hid h1
      have HI := Lib.hid h2
      clear h1 h2 hb
      go_wp2_with (first | (go_at_call 26; refine (ref02_Right c0 c1 c2 c3 c4 c5 c6 _).mono ?_; rintro e w1 ⟨rfl, hb1⟩; have hT1 := Touch.trans (S := nob) (by assumption) (Touch.of_below hb1); clear hb1; rw [HC.out]; obtain ⟨k0, k1, k2, k3, k4, k5, k6⟩ := HB.out _ hT1; obtain ⟨p0, p1, p2, g0, g1, g2⟩ := HB2.out _ hT1) | (go_at_call 19; refine (ref03_Is _ _).mono ?_; rintro e w2 ⟨rfl, rfl⟩; rw [HI.out]))
      refine bodyPost_ret (v := .tuple #[PlV 0 0 0, .bool false]) (by simp [results, Tryd.results46, go_sem, p0, p1, p2]) rfl ⟨by rw [HF.out]; rfl, Touch.below ?_⟩
      repeat (first | with_reducible exact HT.out.1.trans (by assumption) | refine Touch.setCell ?_ (.inr HN.out) _)
    · have HC := Lib.hid h1
      have HI := Lib.hid h2
      clear h1 h2 hb
      go_wp2_with (first | (go_at_call 26; refine (ref02_Right c0 c1 c2 c3 c4 c5 c6 _).mono ?_; rintro e w1 ⟨rfl, hb1⟩; have hT1 := Touch.trans (S := nob) (by assumption) (Touch.of_below hb1); clear hb1; rw [HC.out]; obtain ⟨k0, k1, k2, k3, k4, k5, k6⟩ := HB.out _ hT1; obtain ⟨p0, p1, p2, g0, g1, g2⟩ := HB2.out _ hT1) | (go_at_call 19; refine (ref03_Is _ _).mono ?_; rintro e w2 ⟨rfl, rfl⟩; rw [HI.out]))
      refine bodyPost_ret (v := .tuple #[PlV 0 0 0, .bool false]) (by simp [results, Tryd.results46, go_sem, p0, p1, p2]) rfl ⟨by rw [HF.out]; rfl, Touch.below ?_⟩
      repeat (first | with_reducible exact HT.out.1.trans (by assumption) | refine Touch.setCell ?_ (.inr HN.out) _)
    · have HC := Lib.hid h1
      have HI := Lib.hid h2
      obtain ⟨m0, m1⟩ := HMB.out h1
      clear h1 h2 hb
      go_wp2_with (first | (go_at_call 26; refine (ref02_Right c0 c1 c2 c3 c4 c5 c6 _).mono ?_; rintro e w1 ⟨rfl, hb1⟩; have hT1 := Touch.trans (S := nob) (by assumption) (Touch.of_below hb1); clear hb1; rw [HC.out]; obtain ⟨k0, k1, k2, k3, k4, k5, k6⟩ := HB.out _ hT1; obtain ⟨p0, p1, p2, g0, g1, g2⟩ := HB2.out _ hT1) | (go_at_call 19; refine (ref03_Is _ _).mono ?_; rintro e w2 ⟨rfl, rfl⟩; rw [HI.out]))
      refine bodyPost_ret (v := .tuple #[PlV 0 0 0, .bool false]) (by simp [results, Tryd.results46, go_sem, p0, p1, p2]) rfl ⟨by rw [HF.out]; rfl, Touch.below ?_⟩
      repeat (first | with_reducible exact HT.out.1.trans (by assumption) | refine Touch.setCell ?_ (.inr HN.out) _)
  · simp only [Bool.and_eq_true] at hb
    obtain ⟨hb, hi⟩ := hb
    obtain ⟨hc, a0, a1⟩ := blkOk_iff.1 hb
    obtain ⟨m0, m1⟩ := HMB.out hc
    have HC := Lib.hid hc
    have HI := Lib.hid hi
    obtain ⟨⟨u0, v0⟩, ⟨u1, v1⟩, _⟩ := cfgOk_iff.1 hc
    have sz0 := clsSize_lo hi
    have sz1 := (clsSize_bd k).2
    have HPL : Hid (∀ b s x, 0 ≤ b → b < c0 → 0 ≤ s → s < perBlock c1 k → 0 ≤ x → x < clsSize k → plOk c0 c1 c2 c3 c4 c5 c6 k b s x = true) := fun b s x b0 b1 s0 s1 x0 x1 => plOk_iff.2 ⟨hc, hi, ⟨b0, b1⟩, ⟨s0, s1⟩, x0, x1⟩
    have q0 : 0 ≤ (a - 1) / c1 := Int.ediv_nonneg (by omega) (by omega)
    have q3 : (a - 1) / c1 * c1 ≤ a - 1 := Int.ediv_mul_le _ (by omega)
    have q4 : a - 1 < ((a - 1) / c1 + 1) * c1 := Int.lt_ediv_add_one_mul_self _ (by omega)
    rw [Int.add_mul, Int.one_mul] at q4
    have q5 : (a - 1) / c1 < c0 := (Int.ediv_lt_iff_lt_mul (by omega)).2 (by omega)
    have HF : Hid (fdOk c0 c1 c2 c3 c4 c5 c6 k a = decide ((a - 1 - (a - 1) / c1 * c1) / clsSize k < perBlock c1 k)) := by show fdOk c0 c1 c2 c3 c4 c5 c6 k a = _; unfold fdOk; rw [hb, hi]; rfl
    obtain ⟨q, hq⟩ : ∃ q, (a - 1) / c1 = q := ⟨_, rfl⟩
    have HQ := Lib.hid hq
    rw [hq] at q0 q3 q4 q5 HF
    obtain ⟨pp0, pp1, _, _⟩ := per_facts c1 k hi u1 v1
    have l0 : 0 ≤ a - 1 - q * c1 := by omega
    have d0 : 0 ≤ (a - 1 - q * c1) / clsSize k := Int.ediv_nonneg l0 (by omega)
    have r0 : 0 ≤ (a - 1 - q * c1) % clsSize k := Int.emod_nonneg _ (by omega)
    have r1 : (a - 1 - q * c1) % clsSize k < clsSize k := Int.emod_lt_of_pos _ (by omega)
    have HEQ : Hid (∀ s x, 0 ≤ x → x < clsSize k → (plA c1 k q s x = a ↔ s = (a - 1 - q * c1) / clsSize k ∧ x = (a - 1 - q * c1) % clsSize k)) := by
      intro s x x0 x1
      unfold plA
      constructor
      · intro h
        have e : a - 1 - q * c1 = x + s * clsSize k := by omega
        rw [e, Int.add_mul_ediv_right _ _ (by omega), Int.add_mul_emod_self_right, Int.ediv_eq_zero_of_lt x0 x1, Int.emod_eq_of_lt x0 x1]
        exact ⟨by omega, rfl⟩
      · rintro ⟨rfl, rfl⟩
        have := Int.emod_def (a - 1 - q * c1) (clsSize k)
        rw [Int.mul_comm (clsSize k)] at this
        omega
    have HV : Hid (fdV c1 k a true = PlV q ((a - 1 - q * c1) / clsSize k) ((a - 1 - q * c1) % clsSize k)) := by show fdV c1 k a true = _; unfold fdV; rw [hq]
    obtain ⟨d, hd⟩ : ∃ d, (a - 1 - q * c1) / clsSize k = d := ⟨_, rfl⟩
    obtain ⟨r, hr⟩ : ∃ d, (a - 1 - q * c1) % clsSize k = d := ⟨_, rfl⟩
    rw [hd] at d0 HEQ HV HF
    rw [hr] at r0 r1 HEQ HV
    clear hc hi hb hq hd hr
    go_wp2_with (first | (go_at_call 26; refine (ref02_Right c0 c1 c2 c3 c4 c5 c6 _).mono ?_; rintro e w1 ⟨rfl, hb1⟩; have hT1 := Touch.trans (S := nob) (by assumption) (Touch.of_below hb1); clear hb1; rw [HC.out]; obtain ⟨k0, k1, k2, k3, k4, k5, k6⟩ := HB.out _ hT1; obtain ⟨p0, p1, p2, g0, g1, g2⟩ := HB2.out _ hT1) | (go_at_call 19; refine (ref03_Is _ _).mono ?_; rintro e w2 ⟨rfl, rfl⟩; rw [HI.out]))
    clear k0 k1 k2 k3 k4 k5 k6 p0 p1 p2 g0 g1 g2
    obtain ⟨_, k1, _⟩ := HB.out _ hT1
    go_loop [8] (fun c => ∃ i : Int, 0 ≤ i ∧ i ≤ q ∧ c = .int .i64 i) (fun c => (q - intOf c).toNat)
    case atStart => exact ⟨0, by omega, by omega, rfl⟩
    case round =>
      obtain ⟨i, i0, i1, rfl⟩ := hrel
      have e0 : 0 ≤ (i + 1) * c1 := Int.mul_nonneg (by omega) (by omega)
      by_cases hlt : i < q
      · have e1 : (i + 1) * c1 ≤ q * c1 := Int.mul_le_mul_of_nonneg_right (by omega) (by omega)
        go_wp2_with fail
        go_round
        case rel => exact ⟨i + 1, by omega, by omega, by go_num⟩
        case measure => simp [intOf]; omega
      · obtain rfl : i = q := by omega
        have e1 : (i + 1) * c1 = i * c1 + c1 := by rw [Int.add_mul, Int.one_mul]
        go_wp2_with fail
        have HT1 := Lib.hid hT1
        clear hT1 k1
        go_loopw [9, 10] (fun s x wr => ∃ s' : Int, 0 ≤ s' ∧ s' ≤ perBlock c1 k ∧ s' ≤ d ∧ s = .int .i64 s' ∧ Hid (Touch nob W wr)) (fun s _ _ => (perBlock c1 k - intOf s).toNat)
        case atStart => exact ⟨0, by omega, by omega, by omega, rfl, HT1⟩
        case round =>
          obtain ⟨s, s0, s1, s2, rfl, HTs⟩ := hrel
          have hTs := HTs.out
          obtain ⟨k0, k1, k2, k3, k4, k5, k6⟩ := HB.out _ hTs
          by_cases hs : s < perBlock c1 k
          · go_wp2_with (go_at_call 37; refine (ref03_Per _ _ _).mono ?_; rintro e w' ⟨rfl, rfl⟩)
            clear k0 k1 k2 k3 k4 k5 k6
            go_loopw [10] (fun x wr => ∃ x' : Int, 0 ≤ x' ∧ x' ≤ clsSize k ∧ (s = d → x' ≤ r) ∧ x = .int .i64 x' ∧ Hid (Touch nob W wr)) (fun x _ => (clsSize k - intOf x).toNat)
            case atStart => exact ⟨0, by omega, by omega, fun _ => r0, rfl, HTs⟩
            case round =>
              obtain ⟨x, x0, x1, x2, rfl, HTx⟩ := hrel
              have hTx := HTx.out
              obtain ⟨k0, k1, k2, k3, k4, k5, k6⟩ := HB.out _ hTx
              by_cases hx : x < clsSize k
              · have HP := Lib.hid (HPL.out i s x i0 q5 s0 hs x0 hx)
                by_cases he : s = d ∧ x = r
                · obtain ⟨rfl, rfl⟩ := he
                  have ha : (plA c1 k i s x == a) = true := by rw [beq_iff_eq]; exact (HEQ.out s x x0 hx).2 ⟨rfl, rfl⟩
                  have HFT : Hid (fdOk c0 c1 c2 c3 c4 c5 c6 k a = true) := by show fdOk c0 c1 c2 c3 c4 c5 c6 k a = true; rw [HF.out]; simpa using hs
                  go_wp2_with (first | (go_at_call 21; refine (ref03_Size _ _).mono ?_; rintro e w' ⟨rfl, rfl⟩) | (go_at_call 55; refine (ref04_Of c0 c1 c2 c3 c4 c5 c6 k i s x _).mono ?_; rintro e w4 ⟨rfl, hb4⟩; rw [HP.out]; simp only [ifB]; have hT4 := hTx.trans (Touch.of_below hb4); obtain ⟨p0, p1, p2, g0, g1, g2⟩ := HB2.out _ hT4))
                  refine bodyPost_ret (v := .tuple #[PlV i s x, .bool true]) (by simp [results, Tryd.results46, go_sem, p0, p1, p2]) rfl ⟨by rw [HFT.out, HV.out], Touch.below ?_⟩
                  repeat (first | with_reducible exact HT.out.1.trans hT4 | refine Touch.setCell ?_ (.inr HN.out) _)
                · have ha : (plA c1 k i s x == a) = false := by rw [beq_eq_false_iff_ne]; exact fun h => he ((HEQ.out s x x0 hx).1 h)
                  go_wp2_with (first | (go_at_call 21; refine (ref03_Size _ _).mono ?_; rintro e w' ⟨rfl, rfl⟩) | (go_at_call 55; refine (ref04_Of c0 c1 c2 c3 c4 c5 c6 k i s x _).mono ?_; rintro e w4 ⟨rfl, hb4⟩; rw [HP.out]; simp only [ifB]))
                  go_roundw
                  case rel => exact ⟨x + 1, by omega, by omega, fun h => by have := x2 h; have : x ≠ r := fun hh => he ⟨h, hh⟩; omega, rfl, hTx.trans (Touch.of_below hb4)⟩
                  case measure => simp [intOf]; omega
              · obtain rfl : x = clsSize k := by omega
                have hsd : s ≠ d := fun h => by have := x2 h; omega
                go_wp2_with (go_at_call 21; refine (ref03_Size _ _).mono ?_; rintro e w' ⟨rfl, rfl⟩)
                go_roundw
                case rel => exact ⟨s + 1, by omega, by omega, by omega, rfl, HTx⟩
                case measure => simp [intOf]; omega
          · have HFT : Hid (fdOk c0 c1 c2 c3 c4 c5 c6 k a = false) := by show fdOk c0 c1 c2 c3 c4 c5 c6 k a = false; rw [HF.out]; simp; omega
            obtain ⟨p0, p1, p2, g0, g1, g2⟩ := HB2.out _ hTs
            go_wp2_with (go_at_call 37; refine (ref03_Per _ _ _).mono ?_; rintro e w' ⟨rfl, rfl⟩)
            refine bodyPost_ret (v := .tuple #[PlV 0 0 0, .bool false]) (by simp [results, Tryd.results46, go_sem, p0, p1, p2]) rfl ⟨by rw [HFT.out]; rfl, Touch.below ?_⟩
            repeat (first | with_reducible exact HT.out.1.trans hTs | refine Touch.setCell ?_ (.inr HN.out) _)
end Go.Proofs.YtmonmiadcmffgaaDoor
