/- The log's law Passes, walked. Conditions: none. -/
import Derived.Test.YthdlgffpcfjbiaaLg
import Derived.Deep.AppendLies
import Derived.Deep.LoopGhost
namespace Go.Proofs.Ythdlgffpcfjbiaa
open Go.RowKit

variable {w wr : World} {p q : Nat} {room : Int} {bs xs : List Int}
theorem own_shape {w : World} {base n : Nat} {e : TypeId} {v : Value} {zs : List Value} (h : w.ownsRow base e 1 v n zs) : ∃ ao cap, v = .slice ao n cap := by
  rcases h.2 with ⟨rfl, rfl⟩ | ⟨g, cap, cur, rfl, _⟩
  · exact ⟨_, _, rfl⟩
  · exact ⟨_, _, rfl⟩
theorem own_typed {w : World} {base n b : Nat} {e : TypeId} {v : Value} {zs : List Value} (h : w.ownsRow base e 1 v n zs) (hb : v.ownBlock = some b) : ∃ cur, w.heap[b]? = some (.cells cur e) := by
  rcases h.2 with ⟨rfl, rfl⟩ | ⟨g, cap, cur, rfl, hg, hh, _⟩
  · cases hb
  · cases hb; exact ⟨cur, hh⟩
theorem lg_BNext_any {O : Nat → Prop} (h : Lg w wr p q room O bs xs) : Calls Try.prog 31 #[.pointer (some ⟨q, 0, none⟩)] wr fun e w' => ∃ a o ys, e = .returned (.tuple #[.int .i64 a, .bool o]) ∧ Lg w w' p q room O bs ys ∧ KeepInt wr w' ∧ Hid ((o = true ∧ xs = a :: ys) ∨ (o = false ∧ xs = [] ∧ ys = [])) := by
  cases xs with
  | nil => exact (lg_BNext_no h).mono fun e w' g => ⟨0, false, [], g.1, by rw [← g.2]; exact h, by rw [← g.2]; exact KeepInt.refl _, .inr ⟨rfl, rfl, rfl⟩⟩
  | cons x xs => exact (lg_BNext_ok h).mono fun e w' g => ⟨x, true, xs, g.1, g.2.1, g.2.2, .inl ⟨rfl, rfl⟩⟩
theorem Lg.grow {w' : World} {v3 : Value} {g n cap m : Nat} {zs : List Value} {x : Int} (h : Lg w wr p q room (fun b => v3.ownBlock = some b) bs xs) (hown : wr.ownsRow w.heap.size 3 1 v3 m zs) (hg : (wr.alloc (Obj.cells #[.int .i64 x] 3)).grownBy w' v3.ownBlock)
    (hat : v3.ownBlock = some g ∨ g = wr.heap.size + 1) (hlt : g < w'.heap.size) : Lg w w' p q room (fun b => (Value.slice (some ⟨g, 0, none⟩) n cap).ownBlock = some b) bs xs := by
  have ht : Touch (fun b => v3.ownBlock = some b) wr w' := Touch.grown ((Touch.refl _ _).alloc _) hg (fun k hk => .inl hk)
  obtain ⟨h1, h2, h3, h4, v, u, h5, h6, h7, h8⟩ := h
  have hnp : ¬ v3.ownBlock = some p := fun e => by obtain ⟨cur, hc⟩ := own_typed hown e; have := hc.symm.trans h5.box; simp at this
  have hnq : ¬ v3.ownBlock = some q := fun e => by obtain ⟨cur, hc⟩ := own_typed hown e; have := hc.symm.trans h6.box; simp at this
  refine ⟨h1.step ht (fun i hi => .inr (hown.lt i hi).1), h2, h3, fun b hb => by cases hb; exact hlt, v, u, h5.touch ht hnp h7, h6.touch ht hnq h8, fun b hb hb' => ?_, fun b hb hb' => ?_⟩
  · cases hb'
    rcases hat with h | h
    · exact h7 g hb h
    · have := h5.row.lt g hb; omega
  · cases hb'
    rcases hat with h | h
    · exact h8 g hb h
    · have := h6.row.lt g hb; omega
theorem take_snoc' {xs : List Int} {k : Nat} (h : k < xs.length) : xs.take (k + 1) = xs.take k ++ [xs.getD k 0] := by
  rw [List.take_add_one, List.getD_eq_getElem?_getD, List.getElem?_eq_getElem h]; rfl

set_option maxRecDepth 20000 in
set_option maxHeartbeats 8000000 in
theorem law_LogPasses {w : World} (s : Int) (hs : (Lit.int .u8 s).wf = true) (l : Value) (rows : List (List Value)) (hl : IsSlice w l [some .i64] rows) :
    Calls Try.prog 8 #[.int .u8 s, l] w fun e w' => e = .returned (.bool true) ∧ Below w.heap.size w w' := by
  obtain ⟨s0, s1⟩ := bounds_u8 hs
  clear hs
  obtain ⟨i0, hi, hz0, hz1, hz2⟩ := info_parts info_int2
  obtain ⟨ls, hI, _, _⟩ := ints_of_slice hl
  clear hl
  obtain ⟨ao, cap, rfl, hI⟩ := hI
  obtain ⟨n, hn⟩ : ∃ n, ls.length = n := ⟨_, rfl⟩
  have HI : Hid (ls = [] ∨ ∃ b o, ao = some ⟨b, o, none⟩ ∧ ls.length ≤ cap ∧ ∀ j, j < ls.length → w.cell? ⟨b, o + j, none⟩ = some (.int .i64 (ls.getD j 0))) := hI
  rw [hn]
  have HN := Lib.hid hn
  clear hI hn
  by_cases h200 : 200 < n
  · go_enter Try.func8, Try.ntmps8
    go_wp2_with (go_at_call 27; fail)
    refine (law10_awake _).mono ?_
    rintro e w4 ⟨rfl, hT4⟩
    go_wp2
    go_ret
    exact ⟨rfl, hT4.below⟩
  obtain ⟨m, hm⟩ : ∃ m : Nat, s.tmod 8 = m := ⟨(s.tmod 8).toNat, by have := Int.tmod_nonneg 8 s0; omega⟩
  have hm20 : m < 8 := by have := Int.tmod_lt_of_pos s (show (0 : Int) < 8 by omega); omega
  obtain ⟨K, hK⟩ : ∃ K, K = 1 + m := ⟨_, rfl⟩
  go_enter Try.func8, Try.ntmps8
  go_wp2_with (go_at_call 28; fail)
  clear hm
  refine (log_New_ok _ (by omega) (by omega) _).mono ?_
  rintro e w1 ⟨p, rfl, hp, hT1, hb1⟩
  go_wp2_with (go_at_call 29; fail)
  refine (log_NewBox _).mono ?_
  rintro e w2 ⟨q, rfl, hq, hT2, hx2⟩
  have h0 := lg_both hT1 hp hq hb1 hT2 hx2
  rw [show (1 : Int) + (m : Int) = (K : Int) by omega] at h0
  have h1 : Lg w w2 p q K (fun b => (Value.slice none 0 0).ownBlock = some b) [] [] := ⟨h0.touch, h0.hp, h0.hq, (fun b hb => by cases hb), by obtain ⟨v, u, a, b, _, _⟩ := h0.ex; exact ⟨v, u, a, b, (fun _ _ h => by cases h), (fun _ _ h => by cases h)⟩⟩
  have hK50 : K ≤ 8 ∧ 1 ≤ K := by omega
  obtain ⟨K0, K1⟩ := hK50
  clear hK hm20 hT1 hb1 hT2 hx2 hp hq h0
  go_wp2_with fail
  go_loopw [8, 9] (fun v3 i wr => ∃ k : Nat, ∃ zs bs xs, k ≤ n ∧ i = .int .i64 k ∧ bs.length ≤ K ∧ Hid (zs ++ xs ++ bs = ls.take k) ∧ wr.ownsRow w.heap.size 3 1 v3 zs.length (zs.map (.int .i64)) ∧ Lg w wr p q K (fun b => v3.ownBlock = some b) bs xs) (fun _ i _ => n - (intOf i).toNat)
  case atStart => exact ⟨0, [], [], [], by omega, rfl, by simp, (by show _ = _; simp), World.ownsRow_nil _ _ _ _, h1⟩
  case round =>
    obtain ⟨k, zs, bs, xs, hk, rfl, hbl, HE, hO, hS⟩ := hrel
    clear h1
    by_cases hlt : k < n
    · obtain ⟨b, o, hao, hcap, hcells⟩ := HI.out.resolve_left (by intro h; have := HN.out; rw [h] at this; simp at this; omega)
      subst hao
      rw [HN.out] at hcap hcells
      have hcx := hcells k hlt
      obtain ⟨x, hx⟩ : ∃ x, ls.getD k 0 = x := ⟨_, rfl⟩
      rw [hx] at hcx
      have HX : Hid (ls.take (k + 1) = ls.take k ++ [x]) := by show _ = _; rw [take_snoc' (by rw [HN.out]; exact hlt), hx]
      have HC : Hid (∀ w', Touch nob w w' → w'.cell? ⟨b, o + k, none⟩ = some (.int .i64 x)) := fun w' ht => (ht.cell (cell_lt hcx) (fun x => x)).trans hcx
      have hb : (k : Int) < (n : Int) := by omega
      clear hcells hcx hx
      go_wp2_with (go_at_call 30; fail)
      refine (lg_Full hS).mono ?_
      rintro e w2 ⟨rfl, h2, hk2⟩
      have hO2 := owns_keep hO hk2
      clear hS hO hk2
      cases hfull : (((bs.length : Nat) : Int) == (K : Int))
      · have z1 := HC.out _ h2.touch
        go_wp2_with (go_at_call 33; fail)
        refine (lg_Add_ok h2 x hfull (by omega)).mono ?_
        rintro e w3 ⟨rfl, h3, hk3⟩
        have hO3 := owns_keep hO2 hk3
        clear h2 hO2 hk3 z1
        go_wp2
        go_roundw
        case rel =>
          refine ⟨k + 1, zs, bs ++ [x], xs, by omega, by go_num, ?_, ?_, hO3, h3⟩
          · rw [List.length_append]; simp; have : bs.length ≠ K := by intro h; rw [h] at hfull; simp at hfull
            omega
          · show _ = _
            rw [HX.out, ← HE.out]; simp
        case measure => simp [intOf]; omega
      · go_wp2_with (go_at_call 31; fail)
        refine (lg_BNext_any h2).mono ?_
        rintro e w3 ⟨a1, o1, xs1, rfl, h3, hk3, H3⟩
        have hO3 := owns_keep hO2 hk3
        obtain ⟨T, hT⟩ : ∃ T, ls.take k = T := ⟨_, rfl⟩
        rw [hT] at HE
        have HTT := Lib.hid hT
        have hT0 : T.length ≤ 200 := by rw [← hT, List.length_take]; omega
        clear h2 hO2 hk3 hT
        go_wp2_with fail
        have HT := Lib.hid hT0
        go_loopg [8, 10, 11] (xs.length + 1) (fun g v3 va vo wr2 => ∃ zs ys, ∃ a' : Int, ∃ o' : Bool, va = .int .i64 a' ∧ vo = .bool o' ∧ Hid (ys.length + o'.toNat ≤ g ∧ zs ++ (if o' then a' :: ys else ys) ++ bs = T ∧ (o' = false → ys = [])) ∧ wr2.ownsRow w.heap.size 3 1 v3 zs.length (zs.map (.int .i64)) ∧ Lg w wr2 p q K (fun b => v3.ownBlock = some b) bs ys)
        case atStart => exact ⟨zs, xs1, a1, o1, rfl, rfl, (by show _ ∧ _ ∧ _; have := HE.out; rcases H3.out with ⟨rfl, rfl⟩ | ⟨rfl, rfl, rfl⟩ <;> simp_all), hO3, h3⟩
        case round =>
          obtain ⟨zs, ys, a', o', rfl, rfl, HZ, hO2, h2⟩ := hrel
          cases o' with
          | true =>
            have hzl : zs.length < 200 := by
              have h := congrArg List.length HZ.out.2.1
              simp at h
              have := HT.out
              omega
            obtain ⟨j, hj⟩ : ∃ j, zs.length = j := ⟨_, rfl⟩
            rw [hj] at hzl hO2
            have HJ := Lib.hid hj
            obtain ⟨ao3, cap0, rfl⟩ := own_shape hO2
            have HO2 := Lib.hid (And.intro hO2 h2)
            clear hO2 h2 hj
            go_wp2_with (first | (at_builtin; refine wpList_append_lies _ rfl (.tmp 57) (.tmp 59) 33 rfl w.heap.size 3 i0 (.int .i64 0) 1 8 Try.underlying33 hi hz0 hz1 hz2 rfl (by decide) _ j (zs.map (.int .i64)) rfl (HO2.out.1.alloc _) ⟨wr.heap.size, 0, none⟩ 1 1 [.int .i64 a'] rfl rfl (World.news_of_block (World.alloc_heap_new _ _)) (ints_oneCell _ [a']) (by omega) (by unfold maxLen; omega) (by omega) (by have := HO2.out.2.touch.size; simp; omega) (wr.heap.size + 1) (by simp) ?_; intro g3 cap3 w3 hown hgrow hat hlt3; have HW3 := Lib.hid (And.intro hown (And.intro hgrow (And.intro hat hlt3))); clear hown hgrow hat hlt3) | (go_at_call 31; fail))
            have h3 := HO2.out.2.grow (n := j + 1) (cap := cap3) HO2.out.1 HW3.out.2.1 HW3.out.2.2.1 HW3.out.2.2.2
            have hO3 : w3.ownsRow w.heap.size 3 1 (.slice (some ⟨g3, 0, none⟩) (j + 1) cap3) (zs ++ [a']).length ((zs ++ [a']).map (.int .i64)) := by
              rw [List.map_append, List.length_append, HJ.out]; exact HW3.out.1
            refine (lg_BNext_any h3).mono ?_
            rintro e w4 ⟨a2, o2, ys2, rfl, h4, hk4, H4⟩
            have hO4 := owns_keep hO3 hk4
            clear h3 hO3 hk4
            go_wp2
            go_roundg (gk - 1)
            case measure => have := HZ.out.1; simp at this; omega
            case rel =>
              refine ⟨zs ++ [a'], ys2, a2, o2, rfl, rfl, ?_, hO4, h4⟩
              show _ ∧ _ ∧ _
              have h1 := HZ.out.1
              have h2 := HZ.out.2.1
              simp only [Bool.toNat_true, if_true] at h1 h2
              rcases H4.out with ⟨rfl, rfl⟩ | ⟨rfl, rfl, rfl⟩
              · simp only [List.length_cons] at h1
                exact ⟨by first | (simp; done) | (simp; omega), by simpa using h2, by simp⟩
              · exact ⟨by first | (simp; done) | (simp; omega), by simpa using h2, by simp⟩
          | false =>
            obtain rfl : ys = [] := HZ.out.2.2 rfl
            have HZ2 : Hid (zs ++ bs = T) := by have := HZ.out.2.1; show _ = _; simpa using this
            clear HZ
            go_wp2_with (go_at_call 32; fail)
            refine (lg_Hand_ok h2).mono ?_
            rintro e w5 ⟨rfl, h5, hk5⟩
            have hO5 := owns_keep hO2 hk5
            have z1 := HC.out _ h5.touch
            clear h2 hO2 hk5
            go_wp2_with (go_at_call 33; fail)
            refine (lg_Add_ok h5 x (by simp; omega) (by simp)).mono ?_
            rintro e w6 ⟨rfl, h6, hk6⟩
            have hO6 := owns_keep hO5 hk6
            clear h5 hO5 hk6 z1
            go_wp2
            go_roundw
            case rel =>
              refine ⟨k + 1, zs, [x], bs, by omega, by go_num, by simp; omega, ?_, hO6, h6⟩
              show _ = _
              rw [HX.out, HTT.out, ← HZ2.out]
            case measure => simp [intOf]; omega
    · obtain rfl : k = n := by omega
      have HE2 : Hid (zs ++ xs ++ bs = ls) := by show _ = _; rw [HE.out, List.take_of_length_le (by rw [HN.out]; exact Nat.le_refl _)]
      clear hlt hk HE
      go_wp2_with fail
      go_loopw [8, 12] (fun v3 i wr => ∃ r : Nat, ∃ zs bs xs, r ≤ 2 ∧ i = .int .i64 r ∧ Hid (zs ++ xs ++ bs = ls ∧ (1 ≤ r → bs = []) ∧ (2 ≤ r → xs = [])) ∧ wr.ownsRow w.heap.size 3 1 v3 zs.length (zs.map (.int .i64)) ∧ Lg w wr p q K (fun b => v3.ownBlock = some b) bs xs) (fun _ i _ => 2 - (intOf i).toNat)
      case atStart => exact ⟨0, zs, bs, xs, by omega, rfl, ⟨HE2.out, fun h => by omega, fun h => by omega⟩, hO, hS⟩
      case round =>
        clear hO hS HE2
        obtain ⟨r, zs, bs, xs, hr, rfl, HE, hO, hS⟩ := hrel
        by_cases hlt : r < 2
        · have hlt' : (r : Int) < 2 := by omega
          go_wp2_with (go_at_call 31; fail)
          refine (lg_BNext_any hS).mono ?_
          rintro e w3 ⟨a1, o1, xs1, rfl, h3, hk3, H3⟩
          have hO3 := owns_keep hO hk3
          obtain ⟨T, hT⟩ : ∃ T, ls = T := ⟨_, rfl⟩
          have HTT := Lib.hid hT
          have hT0 : T.length ≤ 200 := by rw [← hT, HN.out]; omega
          have HE3 : Hid (zs ++ xs ++ bs = T) := by show _ = _; rw [HE.out.1, hT]
          have HB : Hid (1 ≤ r → bs = []) := HE.out.2.1
          clear hS hO hk3 hT HE
          go_wp2_with fail
          have HT := Lib.hid hT0
          go_loopg [8, 13, 14] (xs.length + 1) (fun g v3 va vo wr2 => ∃ zs ys, ∃ a' : Int, ∃ o' : Bool, va = .int .i64 a' ∧ vo = .bool o' ∧ Hid (ys.length + o'.toNat ≤ g ∧ zs ++ (if o' then a' :: ys else ys) ++ bs = T ∧ (o' = false → ys = [])) ∧ wr2.ownsRow w.heap.size 3 1 v3 zs.length (zs.map (.int .i64)) ∧ Lg w wr2 p q K (fun b => v3.ownBlock = some b) bs ys)
          case atStart => exact ⟨zs, xs1, a1, o1, rfl, rfl, (by show _ ∧ _ ∧ _; have := HE3.out; rcases H3.out with ⟨rfl, rfl⟩ | ⟨rfl, rfl, rfl⟩ <;> simp_all), hO3, h3⟩
          case round =>
            obtain ⟨zs, ys, a', o', rfl, rfl, HZ, hO2, h2⟩ := hrel
            cases o' with
            | true =>
              have hzl : zs.length < 200 := by
                have h := congrArg List.length HZ.out.2.1
                simp at h
                have := HT.out
                omega
              obtain ⟨j, hj⟩ : ∃ j, zs.length = j := ⟨_, rfl⟩
              rw [hj] at hzl hO2
              have HJ := Lib.hid hj
              obtain ⟨ao3, cap0, rfl⟩ := own_shape hO2
              have HO2 := Lib.hid (And.intro hO2 h2)
              clear hO2 h2 hj
              go_wp2_with (first | (at_builtin; refine wpList_append_lies _ rfl (.tmp 87) (.tmp 89) 33 rfl w.heap.size 3 i0 (.int .i64 0) 1 8 Try.underlying33 hi hz0 hz1 hz2 rfl (by decide) _ j (zs.map (.int .i64)) rfl (HO2.out.1.alloc _) ⟨wr.heap.size, 0, none⟩ 1 1 [.int .i64 a'] rfl rfl (World.news_of_block (World.alloc_heap_new _ _)) (ints_oneCell _ [a']) (by omega) (by unfold maxLen; omega) (by omega) (by have := HO2.out.2.touch.size; simp; omega) (wr.heap.size + 1) (by simp) ?_; intro g3 cap3 w3 hown hgrow hat hlt3; have HW3 := Lib.hid (And.intro hown (And.intro hgrow (And.intro hat hlt3))); clear hown hgrow hat hlt3) | (go_at_call 31; fail))
              have h3 := HO2.out.2.grow (n := j + 1) (cap := cap3) HO2.out.1 HW3.out.2.1 HW3.out.2.2.1 HW3.out.2.2.2
              have hO3 : w3.ownsRow w.heap.size 3 1 (.slice (some ⟨g3, 0, none⟩) (j + 1) cap3) (zs ++ [a']).length ((zs ++ [a']).map (.int .i64)) := by
                rw [List.map_append, List.length_append, HJ.out]; exact HW3.out.1
              refine (lg_BNext_any h3).mono ?_
              rintro e w4 ⟨a2, o2, ys2, rfl, h4, hk4, H4⟩
              have hO4 := owns_keep hO3 hk4
              clear h3 hO3 hk4
              go_wp2
              go_roundg (gk - 1)
              case measure => have := HZ.out.1; simp at this; omega
              case rel =>
                refine ⟨zs ++ [a'], ys2, a2, o2, rfl, rfl, ?_, hO4, h4⟩
                show _ ∧ _ ∧ _
                have h1 := HZ.out.1
                have h2 := HZ.out.2.1
                simp only [Bool.toNat_true, if_true] at h1 h2
                rcases H4.out with ⟨rfl, rfl⟩ | ⟨rfl, rfl, rfl⟩
                · simp only [List.length_cons] at h1
                  exact ⟨by first | (simp; done) | (simp; omega), by simpa using h2, by simp⟩
                · exact ⟨by first | (simp; done) | (simp; omega), by simpa using h2, by simp⟩
            | false =>
              obtain rfl : ys = [] := HZ.out.2.2 rfl
              have HZ2 : Hid (zs ++ bs = T) := by have := HZ.out.2.1; show _ = _; simpa using this
              clear HZ
              rcases (show r = 0 ∨ r = 1 by omega) with rfl | rfl
              · go_wp2_with (go_at_call 32; fail)
                refine (lg_Hand_ok h2).mono ?_
                rintro e w5 ⟨rfl, h5, hk5⟩
                have hO5 := owns_keep hO2 hk5
                clear h2 hO2 hk5
                go_wp2
                go_roundw
                case rel => exact ⟨1, zs, [], bs, by omega, by go_num, ⟨by rw [HTT.out, ← HZ2.out]; simp, fun _ => rfl, fun h => by omega⟩, hO5, h5⟩
                case measure => simp [intOf]
              · obtain rfl : bs = [] := HB.out (Nat.le_refl _)
                go_wp2
                go_roundw
                case rel => exact ⟨2, zs, [], [], by omega, by go_num, ⟨by rw [HTT.out, ← HZ2.out]; simp, fun _ => rfl, fun _ => rfl⟩, hO2, h2⟩
                case measure => simp [intOf]
        · obtain rfl : r = 2 := by omega
          obtain rfl : bs = [] := HE.out.2.1 (by omega)
          obtain rfl : xs = [] := HE.out.2.2 (by omega)
          have hz : zs = ls := by have := HE.out.1; simpa using this
          have hI2 := ints_owned hO
          rw [hz] at hI2
          have hI1 : IntsIn wr (.slice ao k cap) ls := by rw [← HN.out]; exact (show IntsIn w (.slice ao ls.length cap) ls from ⟨ao, cap, rfl, HI.out⟩).old hS.touch
          clear hO hlt hr
          go_wp2_with (go_at_call 25; fail)
          refine (ref01_Same _ _ ls wr hI2 hI1 (by rw [HN.out]; omega)).mono ?_
          rintro e w3 ⟨rfl, h3⟩
          have hS3 := hS.old h3
          go_wp2_with (go_at_call 34; fail)
          refine (lg_Len hS3).mono ?_
          rintro e w' ⟨rfl, rfl⟩
          rw [List.length_nil]
          go_wp2_with (go_at_call 27; fail)
          refine (law10_awake _).mono ?_
          rintro e w4 ⟨rfl, h4⟩
          have h24 := (hS3.touch.trans h4).below
          clear hS h3 h4 hI1 hI2 hS3
          go_wp2
          go_ret
          exact ⟨rfl, h24⟩
end Go.Proofs.Ythdlgffpcfjbiaa
