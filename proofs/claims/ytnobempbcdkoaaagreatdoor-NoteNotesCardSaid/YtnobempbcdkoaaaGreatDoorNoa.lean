/- The notes' laws: what there is more than asked of, places, colors, what is poured and painted, walked. Conditions: none beyond what each says. -/
import Derived.Test.YtnobempbcdkoaaaGreatDoorNod
import Derived.Test.YtnobempbcdkoaaaGreatDoorLaws16c
import Derived.WalkMore
namespace Go.Proofs.YtnobempbcdkoaaaGreatDoor
open Go.RowKit

variable {W w w' : World} {A : HA} {c : Cf} {S : HS} {H : Nat → List Nat} {n p q f b0 b1 b2 b3 b4 m : Nat} {room v col : Int} {bs xs : List Int} {up fr : Bool} {tv : Value} {I Q : World → Prop}
abbrev CsR (c : Cf) (th bf bx : Value) (rm : Int) (up : Bool) : Array Value := #[.int .i64 c.c0, .int .i64 c.c1, .int .i64 c.c2, .int .i64 c.c3, .int .i64 c.c4, .int .i64 c.c5, .int .i64 c.c6, th, bf, bx, .int .u8 rm, .bool up]
abbrev CsV (c : Cf) (th bf bx : Value) (rm : Int) (up : Bool) : Value := .agg (CsR c th bf bx rm up)
theorem box12 {w : World} {b : Nat} {v0 v1 v2 v3 v4 v5 v6 v7 v8 v9 va vb : Value} {t : TypeId} (h : w.heap[b]? = some (.cells #[v0, v1, v2, v3, v4, v5, v6, v7, v8, v9, va, vb] t)) :
    w.cell? ⟨b, 0, none⟩ = some v0 ∧ w.cell? ⟨b, 1, none⟩ = some v1 ∧ w.cell? ⟨b, 2, none⟩ = some v2 ∧ w.cell? ⟨b, 3, none⟩ = some v3 ∧ w.cell? ⟨b, 4, none⟩ = some v4 ∧ w.cell? ⟨b, 5, none⟩ = some v5 ∧ w.cell? ⟨b, 6, none⟩ = some v6 ∧ w.cell? ⟨b, 7, none⟩ = some v7 ∧ w.cell? ⟨b, 8, none⟩ = some v8 ∧ w.cell? ⟨b, 9, none⟩ = some v9 ∧ w.cell? ⟨b, 10, none⟩ = some va ∧ w.cell? ⟨b, 11, none⟩ = some vb := by
  simp [World.cell?, h]
theorem law19_great (c : Cf) (w : World) (at1 af ar : Option Addr) (N c1 M c2 R c3 : Nat) (rm : Int) (up : Bool) :
    Calls Tryz.prog 26 #[CsV c (.slice at1 N c1) (.slice af M c2) (.slice ar R c3) rm up] w fun e w' => e = .returned (.bool (decide (30 < N) || decide (40 < M) || decide (40 < R))) ∧ Touch nob w w' := by
  have hT : Touch nob w (w.alloc (Obj.cells (CsR c (.slice at1 N c1) (.slice af M c2) (.slice ar R c3) rm up) 54)) := (Touch.refl _ _).alloc _
  have HT' := Lib.hid hT
  clear hT
  by_cases h1 : 30 < N
  · have hb1 : (30 : Int) < (N : Int) := by omega
    go_enter Tryz.func26, Tryz.ntmps26
    go_wp2
    go_ret
    exact ⟨ret_b (by rw [decide_eq_true h1]; rfl), HT'.out⟩
  · have hb1 : ¬ (30 : Int) < (N : Int) := by omega
    by_cases h2 : 40 < M
    · have hb2 : (40 : Int) < (M : Int) := by omega
      go_enter Tryz.func26, Tryz.ntmps26
      go_wp2
      go_ret
      exact ⟨rfl, HT'.out⟩
    · have hb2 : ¬ (40 : Int) < (M : Int) := by omega
      by_cases h3 : 40 < R
      · have hb3 : (40 : Int) < (R : Int) := by omega
        go_enter Tryz.func26, Tryz.ntmps26
        go_wp2
        go_ret
        exact ⟨rfl, HT'.out⟩
      · have hb3 : ¬ (40 : Int) < (R : Int) := by omega
        go_enter Tryz.func26, Tryz.ntmps26
        go_wp2
        go_ret
        exact ⟨rfl, HT'.out⟩
theorem law19_place (vl : Value) (l : List Int) (x : Int) (h : IntsIn w vl l) (hl : l.length ≤ 1048576) (hx : x ∈ l) :
    Calls Tryz.prog 39 #[vl, .int .i64 x] w fun e w' => ∃ j : Nat, e = .returned (.int .i64 j) ∧ w = w' ∧ j < l.length ∧ l.getD j 0 = x := by
  obtain ⟨ao, cp, rfl⟩ : ∃ ao cap, vl = .slice ao l.length cap := by obtain ⟨a, b, rfl, _⟩ := h; exact ⟨a, b, rfl⟩
  obtain ⟨m, hm⟩ : ∃ m, l.length = m := ⟨_, rfl⟩
  have HI := Lib.hid (And.intro h (And.intro hm hx))
  rw [hm] at hl ⊢
  clear h hm hx
  go_enter Tryz.func39, Tryz.ntmps39
  go_wp2_with fail
  go_loopw [5] (fun iv wr => wr = w ∧ ∃ j : Nat, j ≤ m ∧ iv = .int .i64 j ∧ Hid (∀ k, k < j → l.getD k 0 ≠ x)) (fun iv _ => m - (intOf iv).toNat)
  case atStart => exact ⟨rfl, 0, Nat.zero_le _, rfl, fun k hk => absurd hk (Nat.not_lt_zero _)⟩
  case round =>
    obtain ⟨rfl, j, hj, rfl, HJ⟩ := hrel
    by_cases hlt : j < m
    · obtain ⟨b, o, cp', e, hcap, hcell⟩ := HI.out.1.at (k := j) (by rw [HI.out.2.1]; exact hlt)
      rw [HI.out.2.1] at e hcap
      injection e with e1 e2 e3
      subst e1 e3
      obtain ⟨y, hy⟩ : ∃ y, l.getD j 0 = y := ⟨_, rfl⟩
      rw [hy] at hcell
      have HY := Lib.hid hy
      have hb : (j : Int) < (m : Int) := by omega
      clear hy e2
      by_cases hxy : y = x
      · go_wp2
        go_ret
        exact ⟨j, (by first | trivial | rfl), (by first | trivial | rfl), hlt, by rw [HY.out]; exact hxy⟩
      · have hxy' : (y == x) = false := by simpa using hxy
        go_wp2_with fail
        go_roundw
        case rel => exact ⟨(by first | trivial | rfl), j + 1, by omega, by go_num, fun k hk => (Nat.lt_succ_iff_lt_or_eq.1 hk).elim (HJ.out k) (fun e => by rw [e, HY.out]; exact hxy)⟩
        case measure => simp [intOf]; omega
    · exfalso
      obtain ⟨k, hk, e⟩ := List.getElem_of_mem HI.out.2.2
      refine HJ.out k (by have := HI.out.2.1; omega) ?_
      rw [List.getD_eq_getElem?_getD, List.getElem?_eq_getElem hk]
      exact e
set_option maxRecDepth 20000 in
/-- All objects, their colors. -/
theorem law19_colors (h : HpI W w A c S H) (hT : Tab w) (hol : S.objs.length ≤ 4096) :
    Calls Tryz.prog 36 #[.pointer (some ⟨A.h, 0, none⟩)] w fun e w' => ∃ va vc, e = .returned (.tuple #[va, vc]) ∧ Touch (HT A) w w' ∧ HpI W w' A c S H ∧ Ow w' w.heap.size va S.objs ∧ Ow w' w.heap.size vc (S.objs.map S.colV) := by
  have hs := fun b (hb : b ∈ A.all) => h.at'.lt b hb
  have HS := Lib.hid hs
  clear hs
  go_enter Tryz.func36, Tryz.ntmps36
  go_wp2_with (go_at_call 19; fail)
  refine (hp_Objects h hT).mono ?_
  rintro e w5 ⟨v5, rfl, t5, h5, o5⟩
  clear h hT
  obtain ⟨ao5, cp5, e5⟩ := o5.ints.shape
  subst e5
  obtain ⟨n, hn⟩ : ∃ n, S.objs.length = n := ⟨_, rfl⟩
  rw [hn] at o5 hol ⊢
  have o5' : Ow w5 w.heap.size (.slice ao5 n cp5) S.objs := o5
  have H5 := Lib.hid (And.intro h5 (And.intro o5' (And.intro hn (And.intro t5 t5.size))))
  clear t5 h5 o5 o5' hn
  obtain ⟨i0, hi, hz0, hz1', hz2⟩ := info_parts info_int2
  go_wp2_with fail
  go_loopw [4, 6] (fun vf iv wr => ∃ j : Nat, j ≤ n ∧ iv = .int .i64 j ∧ Hid (Touch nob w5 wr ∧ Ow wr w5.heap.size vf ((S.objs.take j).map S.colV))) (fun _ iv _ => n - (intOf iv).toNat)
  case atStart => exact ⟨0, Nat.zero_le _, rfl, Touch.refl _ _, World.ownsRow_nil _ _ _ _⟩
  case round =>
    obtain ⟨j, hj, rfl, HI⟩ := hrel
    by_cases hlt : j < n
    · have hb2 : (j : Int) < (n : Int) := by omega
      have ho : Ow wr w.heap.size (.slice ao5 n cp5) S.objs := H5.out.2.1.touch HI.out.1 (fun _ _ x => x)
      obtain ⟨g, rfl, hcap, hcell⟩ := own_at ho rfl H5.out.2.2.1 hlt
      obtain ⟨x, hx⟩ : ∃ x, S.objs.getD j 0 = x := ⟨_, rfl⟩
      rw [hx] at hcell
      have htk : S.objs.take (j + 1) = S.objs.take j ++ [x] := by rw [take_succ_getD (by rw [H5.out.2.2.1]; exact hlt), hx]
      have hcol := hp_ColorE x (H5.out.1.old HI.out.1)
      obtain ⟨V, hV⟩ : ∃ V, S.colV x = V := ⟨_, rfl⟩
      rw [hV] at hcol
      have hfl : ((S.objs.take j).map S.colV).length = j := by rw [List.length_map, List.length_take, H5.out.2.2.1]; omega
      have hfo : wr.ownsRow w5.heap.size 3 1 u4 j (((S.objs.take j).map S.colV).map (.int .i64)) := by
        have h9 := HI.out.2
        unfold Ow at h9
        rwa [hfl] at h9
      have HX := Lib.hid (And.intro htk (And.intro hcol (And.intro hV (And.intro hfo hfl))))
      have HS6 : Hid (w5.heap.size ≤ wr.heap.size) := HI.out.1.size
      clear ho hx htk hcol hV hfo hfl
      go_wp2_with (first
        | (go_at_call 35; refine HX.out.2.1.mono ?_; rintro e w6 ⟨rfl, rfl⟩)
        | (at_builtin; go_loud (refine wpList_append_own _ rfl _ _ 28 rfl w5.heap.size 3 i0 (.int .i64 0) 1 8 Tryz.underlying28 hi hz0 hz1' hz2 rfl (by decide) _ j _ rfl (HX.out.2.2.2.1.alloc _) ⟨wr.heap.size, 0, none⟩ 1 1 [.int .i64 V] rfl rfl (World.news_of_block (World.alloc_heap_new _ _)) (ints_oneCell _ [V]) (by unfold maxLen; omega) (by omega) (by have := HS6.out; simp; omega) ?_); intro v3 w7 hown hgrow _; have HW3 := Lib.hid (And.intro hown hgrow); clear hown hgrow))
      go_roundw
      case rel =>
        refine ⟨j + 1, by omega, by go_num, HI.out.1.grown2 HW3.out.2 (fun k hk => (World.ownsRow.lt HX.out.2.2.2.1 k hk).1), ?_⟩
        have h1 := HW3.out.1
        show Ow _ _ _ _
        rw [HX.out.1, List.map_append]
        unfold Ow
        rw [List.length_append, HX.out.2.2.2.2, List.map_append]
        simp only [List.map_cons, List.map_nil, List.length_singleton]
        rw [HX.out.2.2.1]
        exact h1
      case measure => simp [intOf]; omega
    · obtain rfl : j = n := by omega
      have hb2 : ¬ (j : Int) < (j : Int) := by omega
      have HE := Lib.hid HI.out
      clear HI
      go_wp2
      go_ret2
      have h2 := HE.out.2
      rw [List.take_of_length_le (Nat.le_of_eq H5.out.2.2.1)] at h2
      exact ⟨_, _, rfl, H5.out.2.2.2.1.trans (HE.out.1.mono fun _ _ x => x.elim), H5.out.1.old HE.out.1, H5.out.2.1.touch HE.out.1 (fun _ _ x => x), h2.base H5.out.2.2.2.2⟩
/-- What was to be painted is. -/
theorem law19_painted (h : HpI W w A c S H) {all F : List Int} {cols : List Int} {va vc vf : Value} (ha : IntsIn w va all) (hc : IntsIn w vc cols) (hf : IntsIn w vf F) (hal : all.length ≤ 4096) (hcl : cols.length = all.length) (hfl : F.length ≤ 4096)
    (hp : ∀ j, j < all.length → S.colE (all.getD j 0) = 0 ∧ S.colV (all.getD j 0) = if all.getD j 0 ∈ F then col else cols.getD j 0) :
    Calls Tryz.prog 42 #[.pointer (some ⟨A.h, 0, none⟩), va, vc, vf, .int .i64 col] w fun e w' => e = .returned (.bool true) ∧ Touch nob w w' := by
  obtain ⟨aa, ca, ea⟩ := ha.shape
  obtain ⟨ac, cc, ec⟩ := hc.shape
  obtain ⟨af, cf, ef⟩ := hf.shape
  obtain ⟨N, hN⟩ : ∃ N, all.length = N := ⟨_, rfl⟩
  obtain ⟨M, hM⟩ : ∃ M, F.length = M := ⟨_, rfl⟩
  rw [hcl, hN] at ec
  rw [hN] at hal ea
  rw [hM] at ef hfl
  subst ea ec ef
  have HH := Lib.hid (And.intro h (And.intro ha (And.intro hc (And.intro hf (And.intro hp (And.intro hN (And.intro hM hcl)))))))
  clear h ha hc hf hp hN hM hcl
  go_enter Tryz.func42, Tryz.ntmps42
  go_wp2_with fail
  go_loopw [11] (fun iv wr => ∃ j : Nat, j ≤ N ∧ iv = .int .i64 j ∧ Hid (Touch nob w wr)) (fun iv _ => N - (intOf iv).toNat)
  case atStart => exact ⟨0, Nat.zero_le _, rfl, Touch.refl _ _⟩
  case round =>
    obtain ⟨j, hj, rfl, HT1⟩ := hrel
    by_cases hlt : j < N
    · have hb : (j : Int) < (N : Int) := by omega
      obtain ⟨g1, o1, p1, e1, hcap1, hcell1⟩ := (HH.out.2.1.old HT1.out).at (k := j) (by rw [HH.out.2.2.2.2.2.1]; exact hlt)
      obtain ⟨g2, o2, p2, e2, hcap2, hcell2⟩ := (HH.out.2.2.1.old HT1.out).at (k := j) (by rw [HH.out.2.2.2.2.2.2.2, HH.out.2.2.2.2.2.1]; exact hlt)
      rw [HH.out.2.2.2.2.2.1] at e1 hcap1
      rw [HH.out.2.2.2.2.2.2.2, HH.out.2.2.2.2.2.1] at e2 hcap2
      injection e1 with x1 x2 x3
      injection e2 with z1 z2 z3
      subst x1 x3 z1 z3
      have hj2 := HH.out.2.2.2.2.1 j (by rw [HH.out.2.2.2.2.2.1]; exact hlt)
      obtain ⟨y, hy⟩ : ∃ y, all.getD j 0 = y := ⟨_, rfl⟩
      obtain ⟨d, hd⟩ : ∃ d, cols.getD j 0 = d := ⟨_, rfl⟩
      rw [hy] at hcell1 hj2
      rw [hd] at hcell2 hj2
      have hcol := hp_ColorE y (HH.out.1.old HT1.out)
      rw [hj2.1] at hcol
      obtain ⟨V, hV⟩ : ∃ V, S.colV y = V := ⟨_, rfl⟩
      rw [hV] at hcol hj2
      have HX := Lib.hid (And.intro hcol hj2.2)
      clear hcol hj2 hV hy hd x2 z2
      go_wp2_with (go_at_call 35; fail)
      refine HX.out.1.mono ?_
      rintro e w6 ⟨rfl, rfl⟩
      go_wp2_with (go_at_call 16; fail)
      have hin := ref01_In (.slice af M cf) F y (HH.out.2.2.2.1.old HT1.out) (by have := HH.out.2.2.2.2.2.2.1; omega)
      refine hin.mono ?_
      rintro e w7 ⟨rfl, t7⟩
      have HT7 := Lib.hid (HT1.out.trans t7)
      clear hin t7
      by_cases hyF : y ∈ F
      · have hVc : V = col := by have := HX.out.2; rwa [if_pos hyF] at this
        rw [decide_eq_true hyF]
        subst hVc
        go_wp2_with fail
        go_roundw
        case rel => exact ⟨j + 1, by omega, by go_num, HT7.out⟩
        case measure => simp [intOf]; omega
      · have hVc : V = d := by have := HX.out.2; rwa [if_neg hyF] at this
        rw [decide_eq_false hyF]
        subst hVc
        go_wp2_with fail
        go_roundw
        case rel => exact ⟨j + 1, by omega, by go_num, HT7.out⟩
        case measure => simp [intOf]; omega
    · obtain rfl : j = N := by omega
      have hb : ¬ (j : Int) < (j : Int) := by omega
      go_wp2
      go_ret
      exact ⟨rfl, HT1.out⟩
end Go.Proofs.YtnobempbcdkoaaaGreatDoor
