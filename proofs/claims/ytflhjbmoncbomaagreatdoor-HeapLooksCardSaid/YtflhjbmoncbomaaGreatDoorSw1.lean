/- The sweep's cursor: what it tells, one step. Conditions: what each says. The sweep: a new cursor; a block; all. Conditions: what each says. The sweep: a block; all blocks. Conditions: what each says. -/
import Derived.Test.YtflhjbmoncbomaaGreatDoorRv1
import Derived.WalkMore
namespace Go.Proofs.YtflhjbmoncbomaaGreatDoor
open Go.RowKit

variable {W w w1 w2 w' : World} {T : Nat → Prop} {c : Cf} {A : HA} {S S' : HS} {H H' : Nat → List Nat} {q : Nat} {v : Value} {xs : List Int} {b col : Int}
/-- Where a cursor lies, and what it holds. -/
structure Cu (w : World) (A : HA) (q : Nat) (v : Value) (xs : List Int) (b col : Int) : Prop where
  box : w.heap[q]? = some (.cells #[.pointer (some ⟨A.h, 0, none⟩), v, .int .i64 b, .int .i64 col] 117)
  ints : IntsIn w v xs
  nv : ∀ g, v.ownBlock = some g → g ∉ A.all ∧ g ≠ q ∧ g < w.heap.size
  nq : q ∉ A.all
theorem Cu.touch (h : Cu w A q v xs b col) (ht : Touch T w w') (hq : ¬ T q) (hv : ∀ g, v.ownBlock = some g → ¬ T g) : Cu w' A q v xs b col :=
  ⟨blk_touch h.box ht hq, h.ints.touch ht hv, fun g hg => ⟨(h.nv g hg).1, (h.nv g hg).2.1, Nat.lt_of_lt_of_le (h.nv g hg).2.2 ht.size⟩, h.nq⟩
theorem Cu.heap (h : Cu w A q v xs b col) (ht : Touch (HT A) w w') : Cu w' A q v xs b col := h.touch ht h.nq (fun g hg => (h.nv g hg).1)
theorem Cu.old (h : Cu w A q v xs b col) (ht : Touch nob w w') : Cu w' A q v xs b col := h.touch ht (fun x => x) (fun _ _ x => x)
theorem Cu.cells (h : Cu w A q v xs b col) : w.cell? ⟨q, 0, none⟩ = some (.pointer (some ⟨A.h, 0, none⟩)) ∧ w.cell? ⟨q, 1, none⟩ = some v ∧ w.cell? ⟨q, 2, none⟩ = some (.int .i64 b) ∧ w.cell? ⟨q, 3, none⟩ = some (.int .i64 col) ∧ w.frozen? ⟨q, 1, none⟩ = false := by
  have hb := h.box
  exact ⟨by simp [World.cell?, hb], by simp [World.cell?, hb], by simp [World.cell?, hb], by simp [World.cell?, hb], by simp [World.frozen?, hb]⟩
theorem ints_tl {x : Int} {g o n cap : Nat} (h : IntsIn w (.slice (some ⟨g, o, none⟩) n cap) (x :: xs)) {g' o' : Nat} (hg : g' = g) (ho : xs = [] ∨ o' = o + 1) : IntsIn w (.slice (some ⟨g', o', none⟩) (n - 1) (cap - 1)) xs := by
  subst hg
  obtain ⟨ao, cap', e, h0 | ⟨b, o2, e2, hc, hcl⟩⟩ := h
  · simp at h0
  · cases e
    cases e2
    simp only [List.length_cons] at hc hcl ⊢
    refine ⟨_, _, rfl, ?_⟩
    rcases ho with rfl | rfl
    · exact .inl rfl
    · refine .inr ⟨_, _, rfl, by omega, fun k hk => ?_⟩
      have := hcl (k + 1) (by omega)
      rw [show o + 1 + k = o + (k + 1) by omega, this]
      simp [List.getD_eq_getElem?_getD]
theorem sw_Left (h : Cu w A q v xs b col) : Calls Tryz.prog 30 #[.pointer (some ⟨q, 0, none⟩)] w fun e w' => e = .returned (.int .i64 xs.length) ∧ w = w' := by
  obtain ⟨-, d1, -⟩ := h.cells
  obtain ⟨ao, cap, rfl⟩ := h.ints.shape
  obtain ⟨n, hn⟩ : ∃ n, xs.length = n := ⟨_, rfl⟩
  rw [hn] at d1 ⊢
  clear h hn
  go_enter Tryz.func30, Tryz.ntmps30
  go_wp2
  go_ret
  exact ⟨rfl, rfl⟩
theorem sw_Done (h : Cu w A q v xs b col) : Calls Tryz.prog 29 #[.pointer (some ⟨q, 0, none⟩)] w fun e w' => e = .returned (.bool (decide (xs.length = 0))) ∧ w = w' := by
  have HH := Lib.hid (sw_Left h)
  obtain ⟨n, hn⟩ : ∃ n, xs.length = n := ⟨_, rfl⟩
  rw [hn] at HH ⊢
  clear h hn
  cases n with
  | zero =>
    go_enter Tryz.func29, Tryz.ntmps29
    go_wp2_with (go_at_call 30; fail)
    refine HH.out.mono ?_
    rintro e w1 ⟨rfl, rfl⟩
    go_wp2
    go_ret
    exact ⟨rfl, rfl⟩
  | succ k =>
    have hk : (((k + 1 : Nat) : Int) == 0) = false := by simp only [beq_eq_false_iff_ne, ne_eq]; omega
    go_enter Tryz.func29, Tryz.ntmps29
    go_wp2_with (go_at_call 30; fail)
    refine HH.out.mono ?_
    rintro e w1 ⟨rfl, rfl⟩
    go_wp2
    go_ret
    exact ⟨ret_b (by rw [decide_eq_false (by omega)]; first | exact hk | rfl), rfl⟩
theorem sw_CBlock (h : Cu w A q v xs b col) : Calls Tryz.prog 31 #[.pointer (some ⟨q, 0, none⟩)] w fun e w' => e = .returned (.int .i64 b) ∧ w = w' := by
  obtain ⟨-, -, d2, -⟩ := h.cells
  clear h
  go_enter Tryz.func31, Tryz.ntmps31
  go_wp2
  go_ret
  exact ⟨rfl, rfl⟩
theorem sw_color (n : Int) (w : World) : Calls Tryz.prog 80 #[.int .i64 n] w fun e w' => e = .returned (.bool (decide (n = 0) || decide (n = 1))) ∧ w = w' := by
  by_cases h0 : n = 0
  · subst h0
    go_enter Tryz.func80, Tryz.ntmps80
    go_wp2
    go_ret
    exact ⟨rfl, rfl⟩
  · by_cases h1 : n = 1
    · subst h1
      go_enter Tryz.func80, Tryz.ntmps80
      go_wp2
      go_ret
      exact ⟨rfl, rfl⟩
    · have hb0 : (n == 0) = false := by simpa using h0
      have hb1 : (n == 1) = false := by simpa using h1
      go_enter Tryz.func80, Tryz.ntmps80
      go_wp2
      go_ret
      exact ⟨ret_b (by simp [h0, h1]), rfl⟩
theorem sw_Step_done (h : Cu w A q v [] b col) : Calls Tryz.prog 28 #[.pointer (some ⟨q, 0, none⟩)] w fun e w' => e = .returned (.tuple #[.int .i64 0, .bool false]) ∧ w = w' := by
  have HD := Lib.hid (sw_Done h)
  clear h
  go_enter Tryz.func28, Tryz.ntmps28
  go_wp2_with (go_at_call 29; fail)
  refine HD.out.mono ?_
  rintro e w1 ⟨rfl, rfl⟩
  rw [show decide (([] : List Int).length = 0) = true from rfl]
  go_wp2
  go_ret2
  exact ⟨rfl, rfl⟩
/-- What a step tells of an address. -/
def HS.gone (S : HS) (col a : Int) : Bool := S.obj a && !(S.colV a == col)
/-- Behind a step. -/
structure StR (W w : World) (A : HA) (c : Cf) (S : HS) (H : Nat → List Nat) (q : Nat) (v0 : Value) (xs : List Int) (b col a : Int) (w' : World) : Prop where
  t : Touch (fun i => HT A i ∨ i = q) w w'
  hp : HpI W w' A c (if S.gone col a = true then S.freS c a else S) (if S.gone col a = true then freH S c H a else H)
  cu : ∃ v, Cu w' A q v xs b col ∧ ∀ y, v.ownBlock = some y → v0.ownBlock = some y
set_option maxRecDepth 10000 in
set_option maxHeartbeats 1000000 in
theorem sw_Step (a : Int) (h : Cu w A q v (a :: xs) b col) (hp : HpI W w A c S H) (hq : W.heap.size ≤ q) : Calls Tryz.prog 28 #[.pointer (some ⟨q, 0, none⟩)] w fun e w' => e = .returned (.tuple #[.int .i64 (if S.gone col a = true then a else 0), .bool (S.gone col a)]) ∧ StR W w A c S H q v xs b col a w' := by
  have hD := sw_Done h
  rw [show decide ((a :: xs).length = 0) = false from rfl] at hD
  obtain ⟨d0, d1, d2, d3, f1⟩ := h.cells
  obtain ⟨g, o, cap, rfl, hcap, hc⟩ := h.ints.at (k := 0) (by simp)
  simp only [Nat.add_zero, List.getD_cons_zero, List.length_cons] at hc hcap d1
  obtain ⟨n, hn⟩ : ∃ n, xs.length = n := ⟨_, rfl⟩
  rw [hn] at hcap d1
  have hcu : Hid (∀ (w2 : World) (g' o' : Nat), Touch nob w w2 → g' = g → xs = [] ∨ o' = o + 1 → Cu (w2.setCell ⟨q, 1, none⟩ (.slice (some ⟨g', o', none⟩) n (cap - 1))) A q (.slice (some ⟨g', o', none⟩) n (cap - 1)) xs b col) := by
    intro w2 g' o' ht e1 e2
    subst e1
    have h2 := h.old ht
    have hi := ints_tl h2.ints rfl e2
    rw [List.length_cons, Nat.add_sub_cancel, hn] at hi
    have hnv := h2.nv g' rfl
    refine ⟨?_, hi.touch (touch_set _ _ _ _) (fun y hy e => ?_), fun y hy => ?_, h2.nq⟩
    · rw [set_cells 1 _ h2.box]
      rfl
    · cases hy
      exact hnv.2.1 e
    · cases hy
      refine ⟨hnv.1, hnv.2.1, ?_⟩
      simpa [World.setCell] using hnv.2.2
  have HH := Lib.hid (And.intro hD (And.intro hp hq))
  have hqg : g ≠ q := (h.nv g rfl).2.1
  have hnq := Lib.hid (And.intro h.nq hn)
  have hql := blk_lt h.box
  have hb0 : (0 : Int) < ((n + 1 : Nat) : Int) := by omega
  clear hD hp hq h hn
  have hpq : Hid (∀ w3, Touch (fun i => i = q) w w3 → HpI W w3 A c S H) := fun w3 ht => HH.out.2.1.touch (HH.out.2.1.at'.base.step ht (fun i hi => .inr (by rw [hi]; exact HH.out.2.2))) ht (fun x hx e => hnq.out.1 (e ▸ hx))
  have hqh : Hid (∀ w3, Touch (fun i => i = q) w w3 → Touch (fun i => HT A i ∨ i = q) w w3) := fun w3 ht => ht.mono fun _ _ e => .inr e
  by_cases hob : S.obj a = true
  · by_cases hcl : S.colV a = col
    · have hgo : S.gone col a = false := by unfold HS.gone; rw [hob, hcl]; simp
      rw [hgo]
      have HG := Lib.hid (And.intro hgo (And.intro hob hcl))
      clear hgo hob hcl
      by_cases hcp : cap = 1
      · subst hcp
        have hn0 : n = 0 := by omega
        go_enter Tryz.func28, Tryz.ntmps28
        go_wp2_with (go_at_call 29; fail)
        refine HH.out.1.mono ?_
        rintro e w1 ⟨rfl, rfl⟩
        go_wp2_with (go_at_call 21; fail)
        have hc3 : Cu (w.setCell ⟨q, 1, none⟩ (.slice (some ⟨g, o, none⟩) 0 0)) A q (.slice (some ⟨g, o, none⟩) 0 0) xs b col := by
          have := hcu.out w g o (Touch.refl _ _) rfl (.inl (List.eq_nil_of_length_eq_zero (hnq.out.2.trans hn0)))
          rw [hn0] at this
          exact this
        have ht3 := touch_set w q 1 (.slice (some ⟨g, o, none⟩) 0 0)
        generalize hw3 : World.setCell w _ _ = w3 at hc3 ht3 ⊢
        clear hw3 d0 d1 d2 d3 f1 hc
        obtain ⟨d0, -, -, d3, -⟩ := hc3.cells
        have hp3 := hpq.out w3 ht3
        have HP3 := Lib.hid (And.intro hp3 (And.intro ht3 hc3))
        clear hc3 ht3
        have hco := heap_Color a hp3.at'
        rw [show S.colE a = 0 by unfold HS.colE; rw [HG.out.2.1]; rfl, HG.out.2.2] at hco
        clear hp3
        refine hco.mono ?_
        rintro e w5 ⟨rfl, rfl⟩
        clear hco
        go_wp2
        go_ret2
        exact ⟨rfl, hqh.out _ HP3.out.2.1, by rw [HG.out.1]; exact HP3.out.1, _, HP3.out.2.2, fun y hy => hy⟩
      · go_enter Tryz.func28, Tryz.ntmps28
        go_wp2_with (go_at_call 29; fail)
        refine HH.out.1.mono ?_
        rintro e w1 ⟨rfl, rfl⟩
        go_wp2_with (go_at_call 21; fail)
        have hc3 := hcu.out w g (o + 1) (Touch.refl _ _) rfl (.inr rfl)
        have ht3 := touch_set w q 1 (.slice (some ⟨g, o + 1, none⟩) n (cap - 1))
        generalize hw3 : World.setCell w _ _ = w3 at hc3 ht3 ⊢
        clear hw3 d0 d1 d2 d3 f1 hc
        obtain ⟨d0, -, -, d3, -⟩ := hc3.cells
        have hp3 := hpq.out w3 ht3
        have HP3 := Lib.hid (And.intro hp3 (And.intro ht3 hc3))
        clear hc3 ht3
        have hco := heap_Color a hp3.at'
        rw [show S.colE a = 0 by unfold HS.colE; rw [HG.out.2.1]; rfl, HG.out.2.2] at hco
        clear hp3
        refine hco.mono ?_
        rintro e w5 ⟨rfl, rfl⟩
        clear hco
        go_wp2
        go_ret2
        exact ⟨rfl, hqh.out _ HP3.out.2.1, by rw [HG.out.1]; exact HP3.out.1, _, HP3.out.2.2, fun y hy => hy⟩
    · have hgo : S.gone col a = true := by unfold HS.gone; rw [hob]; simp [hcl]
      rw [hgo]
      have hclb : (S.colV a == col) = false := by simpa using hcl
      have HG := Lib.hid (And.intro hgo (And.intro hob hclb))
      clear hgo hob hcl hclb
      by_cases hcp : cap = 1
      · subst hcp
        have hn0 : n = 0 := by omega
        go_enter Tryz.func28, Tryz.ntmps28
        go_wp2_with (go_at_call 29; fail)
        refine HH.out.1.mono ?_
        rintro e w1 ⟨rfl, rfl⟩
        go_wp2_with (go_at_call 21; fail)
        have hc3 : Cu (w.setCell ⟨q, 1, none⟩ (.slice (some ⟨g, o, none⟩) 0 0)) A q (.slice (some ⟨g, o, none⟩) 0 0) xs b col := by
          have := hcu.out w g o (Touch.refl _ _) rfl (.inl (List.eq_nil_of_length_eq_zero (hnq.out.2.trans hn0)))
          rw [hn0] at this
          exact this
        have ht3 := touch_set w q 1 (.slice (some ⟨g, o, none⟩) 0 0)
        generalize hw3 : World.setCell w _ _ = w3 at hc3 ht3 ⊢
        clear hw3 d0 d1 d2 d3 f1 hc
        obtain ⟨d0, -, -, d3, -⟩ := hc3.cells
        have hp3 := hpq.out w3 ht3
        have HP3 := Lib.hid (And.intro hp3 (And.intro ht3 hc3))
        clear hc3 ht3
        have hco := heap_Color a hp3.at'
        have hfr := hp_Free a hp3
        have hKb := HG.out.2.2
        obtain ⟨K, hK⟩ : ∃ K, S.colV a = K := ⟨_, rfl⟩
        rw [show S.colE a = 0 by unfold HS.colE; rw [HG.out.2.1]; rfl, hK] at hco
        rw [hK] at hKb
        have HFR := Lib.hid hfr
        clear hp3 hfr hK
        refine hco.mono ?_
        rintro e w5 ⟨rfl, rfl⟩
        clear hco
        go_wp2_with (go_at_call 43; fail)
        refine HFR.out.mono ?_
        rintro e w6 ⟨rfl, t6, h6⟩
        generalize HS.freE _ _ = fe
        have H6 := Lib.hid (And.intro t6 h6)
        clear t6 h6
        go_wp2
        go_ret2
        exact ⟨rfl, (hqh.out _ HP3.out.2.1).trans (H6.out.1.mono fun _ _ e => .inl e), by rw [HG.out.1]; exact H6.out.2, _, HP3.out.2.2.heap H6.out.1, fun y hy => hy⟩
      · go_enter Tryz.func28, Tryz.ntmps28
        go_wp2_with (go_at_call 29; fail)
        refine HH.out.1.mono ?_
        rintro e w1 ⟨rfl, rfl⟩
        go_wp2_with (go_at_call 21; fail)
        have hc3 := hcu.out w g (o + 1) (Touch.refl _ _) rfl (.inr rfl)
        have ht3 := touch_set w q 1 (.slice (some ⟨g, o + 1, none⟩) n (cap - 1))
        generalize hw3 : World.setCell w _ _ = w3 at hc3 ht3 ⊢
        clear hw3 d0 d1 d2 d3 f1 hc
        obtain ⟨d0, -, -, d3, -⟩ := hc3.cells
        have hp3 := hpq.out w3 ht3
        have HP3 := Lib.hid (And.intro hp3 (And.intro ht3 hc3))
        clear hc3 ht3
        have hco := heap_Color a hp3.at'
        have hfr := hp_Free a hp3
        have hKb := HG.out.2.2
        obtain ⟨K, hK⟩ : ∃ K, S.colV a = K := ⟨_, rfl⟩
        rw [show S.colE a = 0 by unfold HS.colE; rw [HG.out.2.1]; rfl, hK] at hco
        rw [hK] at hKb
        have HFR := Lib.hid hfr
        clear hp3 hfr hK
        refine hco.mono ?_
        rintro e w5 ⟨rfl, rfl⟩
        clear hco
        go_wp2_with (go_at_call 43; fail)
        refine HFR.out.mono ?_
        rintro e w6 ⟨rfl, t6, h6⟩
        generalize HS.freE _ _ = fe
        have H6 := Lib.hid (And.intro t6 h6)
        clear t6 h6
        go_wp2
        go_ret2
        exact ⟨rfl, (hqh.out _ HP3.out.2.1).trans (H6.out.1.mono fun _ _ e => .inl e), by rw [HG.out.1]; exact H6.out.2, _, HP3.out.2.2.heap H6.out.1, fun y hy => hy⟩
  · have hob0 : S.obj a = false := by simpa using hob
    have hgo : S.gone col a = false := by unfold HS.gone; rw [hob0]; rfl
    rw [hgo]
    have HG := Lib.hid (And.intro hgo hob0)
    clear hgo hob hob0
    by_cases hcp : cap = 1
    · subst hcp
      have hn0 : n = 0 := by omega
      go_enter Tryz.func28, Tryz.ntmps28
      go_wp2_with (go_at_call 29; fail)
      refine HH.out.1.mono ?_
      rintro e w1 ⟨rfl, rfl⟩
      go_wp2_with (go_at_call 21; fail)
      have hc3 : Cu (w.setCell ⟨q, 1, none⟩ (.slice (some ⟨g, o, none⟩) 0 0)) A q (.slice (some ⟨g, o, none⟩) 0 0) xs b col := by
        have := hcu.out w g o (Touch.refl _ _) rfl (.inl (List.eq_nil_of_length_eq_zero (hnq.out.2.trans hn0)))
        rw [hn0] at this
        exact this
      have ht3 := touch_set w q 1 (.slice (some ⟨g, o, none⟩) 0 0)
      generalize hw3 : World.setCell w _ _ = w3 at hc3 ht3 ⊢
      clear hw3 d0 d1 d2 d3 f1 hc
      obtain ⟨d0, -, -, d3, -⟩ := hc3.cells
      have hp3 := hpq.out w3 ht3
      have HP3 := Lib.hid (And.intro hp3 (And.intro ht3 hc3))
      clear hc3 ht3
      have hco := heap_Color a hp3.at'
      rw [show S.colE a = 1 by unfold HS.colE; rw [HG.out.2]; rfl, show S.colV a = 0 by unfold HS.colV; rw [HG.out.2]; rfl] at hco
      clear hp3
      refine hco.mono ?_
      rintro e w5 ⟨rfl, rfl⟩
      clear hco
      go_wp2
      go_ret2
      exact ⟨rfl, hqh.out _ HP3.out.2.1, by rw [HG.out.1]; exact HP3.out.1, _, HP3.out.2.2, fun y hy => hy⟩
    · go_enter Tryz.func28, Tryz.ntmps28
      go_wp2_with (go_at_call 29; fail)
      refine HH.out.1.mono ?_
      rintro e w1 ⟨rfl, rfl⟩
      go_wp2_with (go_at_call 21; fail)
      have hc3 := hcu.out w g (o + 1) (Touch.refl _ _) rfl (.inr rfl)
      have ht3 := touch_set w q 1 (.slice (some ⟨g, o + 1, none⟩) n (cap - 1))
      generalize hw3 : World.setCell w _ _ = w3 at hc3 ht3 ⊢
      clear hw3 d0 d1 d2 d3 f1 hc
      obtain ⟨d0, -, -, d3, -⟩ := hc3.cells
      have hp3 := hpq.out w3 ht3
      have HP3 := Lib.hid (And.intro hp3 (And.intro ht3 hc3))
      clear hc3 ht3
      have hco := heap_Color a hp3.at'
      rw [show S.colE a = 1 by unfold HS.colE; rw [HG.out.2]; rfl, show S.colV a = 0 by unfold HS.colV; rw [HG.out.2]; rfl] at hco
      clear hp3
      refine hco.mono ?_
      rintro e w5 ⟨rfl, rfl⟩
      clear hco
      go_wp2
      go_ret2
      exact ⟨rfl, hqh.out _ HP3.out.2.1, by rw [HG.out.1]; exact HP3.out.1, _, HP3.out.2.2, fun y hy => hy⟩
end Go.Proofs.YtflhjbmoncbomaaGreatDoor
namespace Go.Proofs.YtflhjbmoncbomaaGreatDoor
open Go.RowKit

variable {W w w1 w2 w' : World} {T : Nat → Prop} {c : Cf} {A : HA} {S S' : HS} {H H' : Nat → List Nat} {q : Nat} {v : Value} {xs : List Int} {b col : Int}
theorem sw_New_b (b col : Int) (h : HpI W w A c S H) (hb : b < 0 ∨ (S.s.ks.length : Int) ≤ b) : Calls Tryz.prog 25 #[.pointer (some ⟨A.h, 0, none⟩), .int .i64 b, .int .i64 col] w fun e w' => e = .returned (.tuple #[.pointer none, .int .i64 1]) ∧ Touch nob w w' := by
  have HH := Lib.hid (And.intro h hb)
  clear h hb
  go_enter Tryz.func25, Tryz.ntmps25
  go_wp2_with (go_at_call 47; fail)
  refine (hp_Table HH.out.1).mono ?_
  rintro e w1 ⟨p', g, cap', rfl, t1, _, _, hb1⟩
  have H1 := Lib.hid (And.intro t1 hb1)
  clear t1 hb1
  go_wp2_with (go_at_call 79; fail)
  refine (blk_Slots_no b H1.out.2 HH.out.2).mono ?_
  rintro e w2 ⟨rfl, rfl⟩
  go_wp2
  go_ret2
  exact ⟨rfl, H1.out.1⟩
theorem slAt_pos (h : Tb c S.s.ks A.L.n) {m : Nat} (hm : m < S.s.ks.length) : 0 < (slAt c S.s.ks m).length := by
  have hk := h.cls m hm
  have hn := h.hn
  have hl := h.le
  obtain ⟨_, ⟨u1, v1⟩, _⟩ := cfgOk_iff.1 h.ok
  obtain ⟨p0, p1, p2, p3⟩ := per_facts c.c1 _ hk u1 v1
  unfold slAt
  rw [if_pos hm, sl_eq h.ok hk (by omega) (by omega), List.length_map, List.length_range]
  omega
theorem sw_New_col (m : Nat) (col : Int) (h : HpI W w A c S H) (hm : m < S.s.ks.length) (h0 : col ≠ 0) (h1 : col ≠ 1) : Calls Tryz.prog 25 #[.pointer (some ⟨A.h, 0, none⟩), .int .i64 m, .int .i64 col] w fun e w' => e = .returned (.tuple #[.pointer none, .int .i64 1]) ∧ Touch nob w w' := by
  have hp := slAt_pos h.tb hm
  obtain ⟨L, hL⟩ : ∃ L, slAt c S.s.ks m = L := ⟨_, rfl⟩
  have HH := Lib.hid (And.intro h hL)
  have HD := Lib.hid (show (decide (col = 0) || decide (col = 1)) = false by rw [decide_eq_false h0, decide_eq_false h1]; rfl)
  rw [hL] at hp
  clear h hm hL h0 h1
  go_enter Tryz.func25, Tryz.ntmps25
  go_wp2_with (go_at_call 47; fail)
  refine (hp_Table HH.out.1).mono ?_
  rintro e w1 ⟨p', g, cap', rfl, t1, _, _, hb1⟩
  have H1 := Lib.hid (And.intro t1 hb1)
  clear t1 hb1
  go_wp2_with (go_at_call 79; fail)
  have hl := (HH.out.1.old H1.out.1).lay
  have hsl := blk_Slots m H1.out.2 hl.lim hl.siz
  rw [HH.out.2] at hsl
  refine hsl.mono ?_
  rintro e w2 ⟨v, rfl, t2, hi, _⟩
  have H2 := Lib.hid t2
  obtain ⟨ao, cp, rfl⟩ := hi.shape
  obtain ⟨z, hz⟩ : ∃ z, L.length = z := ⟨_, rfl⟩
  rw [hz] at hp ⊢
  have hz0 : ((z : Int) == 0) = false := by simp only [beq_eq_false_iff_ne, ne_eq]; omega
  have hz1 : ¬ z = 0 := by omega
  clear t2 hi hl hsl hz
  go_wp2_with (go_at_call 80; fail)
  refine (sw_color col _).mono ?_
  rintro e w3 ⟨rfl, rfl⟩
  rw [HD.out]
  go_wp2
  go_ret2
  exact ⟨rfl, H1.out.1.trans H2.out⟩
theorem sw_New_ok (m : Nat) (col : Int) (h : HpI W w A c S H) (hm : m < S.s.ks.length) (hc : col = 0 ∨ col = 1) : Calls Tryz.prog 25 #[.pointer (some ⟨A.h, 0, none⟩), .int .i64 m, .int .i64 col] w fun e w' => ∃ q v, e = .returned (.tuple #[.pointer (some ⟨q, 0, none⟩), .int .i64 0]) ∧ Touch nob w w' ∧ w.heap.size ≤ q ∧ q < w'.heap.size ∧ Cu w' A q v (slAt c S.s.ks m) m col ∧ ∀ g, v.ownBlock = some g → w.heap.size ≤ g := by
  have hp := slAt_pos h.tb hm
  obtain ⟨L, hL⟩ : ∃ L, slAt c S.s.ks m = L := ⟨_, rfl⟩
  have HH := Lib.hid (And.intro h hL)
  have HD := Lib.hid (show (decide (col = 0) || decide (col = 1)) = true by rcases hc with rfl | rfl <;> rfl)
  rw [hL] at hp ⊢
  clear h hm hL hc
  go_enter Tryz.func25, Tryz.ntmps25
  go_wp2_with (go_at_call 47; fail)
  refine (hp_Table HH.out.1).mono ?_
  rintro e w1 ⟨p', g, cap', rfl, t1, _, _, hb1⟩
  have H1 := Lib.hid (And.intro t1 hb1)
  clear t1 hb1
  go_wp2_with (go_at_call 79; fail)
  have hl := (HH.out.1.old H1.out.1).lay
  have hsl := blk_Slots m H1.out.2 hl.lim hl.siz
  rw [HH.out.2] at hsl
  refine hsl.mono ?_
  rintro e w2 ⟨v, rfl, t2, hi, hg⟩
  obtain ⟨ao, cp, rfl⟩ := hi.shape
  have H2 := Lib.hid (And.intro t2 (And.intro hi hg))
  obtain ⟨z, hz⟩ : ∃ z, L.length = z := ⟨_, rfl⟩
  rw [hz] at hp H2 ⊢
  have HZ := Lib.hid hz
  have hz0 : ((z : Int) == 0) = false := by simp only [beq_eq_false_iff_ne, ne_eq]; omega
  have hz1 : ¬ z = 0 := by omega
  clear t2 hi hl hsl hz hg
  go_wp2_with (go_at_call 80; fail)
  refine (sw_color col _).mono ?_
  rintro e w3 ⟨rfl, rfl⟩
  rw [HD.out]
  go_wp2
  go_ret2
  have ht : Touch nob w w2 := H1.out.1.trans H2.out.1
  have hin : ∀ g, (Value.slice ao z cp).ownBlock = some g → g < w2.heap.size := fun g hg => by
    obtain ⟨ao', cp', e, h0 | ⟨b, o, e2, hc', hcl⟩⟩ := H2.out.2.1
    · have := HZ.out; rw [h0] at this; simp at this; omega
    · cases e
      cases e2
      cases hg
      exact cell_lt (hcl 0 (by have := HZ.out; omega))
  refine ⟨_, _, rfl, ht.alloc _, ht.size, by rw [World.size_alloc]; omega, ⟨World.alloc_heap_new _ _, H2.out.2.1.old (Touch.alloc (Touch.refl _ _) _), fun g hg => ⟨HH.out.1.at'.aside (Nat.le_trans H1.out.1.size (H2.out.2.2 g hg)), ?_, ?_⟩, HH.out.1.at'.aside ht.size⟩, fun g hg => Nat.le_trans H1.out.1.size (H2.out.2.2 g hg)⟩
  · have := hin g hg
    omega
  · rw [World.size_alloc]
    exact Nat.lt_succ_of_lt (hin g hg)
/-- Behind a step. -/
def swStep (c : Cf) (col : Int) (p : HS × (Nat → List Nat)) (a : Int) : HS × (Nat → List Nat) := (if p.1.gone col a = true then p.1.freS c a else p.1, if p.1.gone col a = true then freH p.1 c p.2 a else p.2)
def swP (c : Cf) (col : Int) (l : List Int) (p : HS × (Nat → List Nat)) : HS × (Nat → List Nat) := l.foldl (swStep c col) p
/-- What is freed. -/
def swL (c : Cf) (col : Int) : List Int → HS × (Nat → List Nat) → List Int
  | [], _ => []
  | a :: l, p => (if p.1.gone col a = true then [a] else []) ++ swL c col l (swStep c col p a)
theorem swP_snoc (l : List Int) (a : Int) (p : HS × (Nat → List Nat)) : swP c col (l ++ [a]) p = swStep c col (swP c col l p) a := by
  unfold swP
  rw [List.foldl_append]
  rfl
theorem swL_snoc (a : Int) : ∀ (l : List Int) (p : HS × (Nat → List Nat)), swL c col (l ++ [a]) p = swL c col l p ++ (if (swP c col l p).1.gone col a = true then [a] else [])
  | [], p => by
    show (if _ then [a] else []) ++ [] = [] ++ _
    rw [List.append_nil, List.nil_append]
    rfl
  | x :: l, p => by
    show (if _ then [x] else []) ++ swL c col (l ++ [a]) (swStep c col p x) = ((if _ then [x] else []) ++ swL c col l (swStep c col p x)) ++ _
    rw [swL_snoc a l, List.append_assoc]
    rfl
theorem swL_len : ∀ (l : List Int) (p : HS × (Nat → List Nat)), (swL c col l p).length ≤ l.length
  | [], _ => Nat.le_refl _
  | x :: l, p => by
    show ((if _ then [x] else []) ++ swL c col l (swStep c col p x)).length ≤ _
    have := swL_len l (swStep c col p x)
    rw [List.length_append, List.length_cons]
    split <;> simp <;> omega
/-- While a block is swept: the slots l1 have had their turn. -/
structure RnI (W w : World) (A : HA) (c : Cf) (p : HS × (Nat → List Nat)) (q : Nat) (b col : Int) (l1 l2 : List Int) (vo : Value) (wr : World) : Prop where
  t : Touch (fun i => HT A i ∨ i = q) w wr
  hp : HpI W wr A c (swP c col l1 p).1 (swP c col l1 p).2
  cu : ∃ v, Cu wr A q v l2 b col ∧ ∀ y, v.ownBlock = some y → y < w.heap.size
  ow : Ow wr w.heap.size vo (swL c col l1 p)
set_option maxRecDepth 10000 in
set_option maxHeartbeats 1000000 in
theorem sw_run (p : HS × (Nat → List Nat)) (h : HpI W w A c p.1 p.2) (cu : Cu w A q v xs b col) (hq : W.heap.size ≤ q) (hqs : q < w.heap.size) (hxl : xs.length ≤ 4096) :
    Calls Tryz.prog 81 #[.func (.func 28) #[.pointer (some ⟨q, 0, none⟩)] #[], .func (.func 29) #[.pointer (some ⟨q, 0, none⟩)] #[]] w fun e w' => ∃ v', e = .returned v' ∧ RnI W w A c p q b col xs [] v' w' := by
  obtain ⟨i0, hi, hz0, hz1, hz2⟩ := info_parts info_int2
  have H0 : Hid (RnI W w A c p q b col [] xs (.slice none 0 0) w) := ⟨Touch.refl _ _, h, ⟨v, cu, fun y hy => (cu.nv y hy).2.2⟩, World.ownsRow_nil _ _ _ _⟩
  have HQ := Lib.hid (And.intro hq (And.intro hqs (And.intro hxl h.at'.lt)))
  clear h cu hq hqs
  go_enter Tryz.func81, Tryz.ntmps81
  go_wp2_with fail
  go_loopg [5] (xs.length + 1) (fun g vo wr => ∃ l1 l2, xs = l1 ++ l2 ∧ Hid (l2.length ≤ g) ∧ Hid (RnI W w A c p q b col l1 l2 vo wr))
  case atStart => exact ⟨[], xs, rfl, Nat.le_succ _, H0.out⟩
  case round =>
    obtain ⟨l1, l2, hl, HG, HR⟩ := hrel
    obtain ⟨v', hcu, hvl⟩ := HR.out.cu
    have HV := Lib.hid hvl
    clear hvl
    have hd := sw_Done hcu
    have HX := Lib.hid hl
    clear H0 hl
    cases l2 with
    | nil =>
      rw [show decide (([] : List Int).length = 0) = true from rfl] at hd
      go_wp2_with (go_at_call 29; fail)
      refine hd.mono ?_
      rintro e w2 ⟨rfl, rfl⟩
      go_wp2
      go_ret
      refine ⟨_, rfl, ?_⟩
      rw [HX.out, List.append_nil]
      exact HR.out
    | cons a l2 =>
      rw [show decide ((a :: l2).length = 0) = false from rfl] at hd
      have hst := sw_Step a hcu HR.out.hp HQ.out.1
      obtain ⟨G, hG⟩ : ∃ G, (swP c col l1 p).1.gone col a = G := ⟨_, rfl⟩
      have HGo := Lib.hid hG
      rw [hG] at hst
      have HST := Lib.hid hst
      clear hst hG hcu
      go_wp2_with (go_at_call 29; fail)
      refine hd.mono ?_
      rintro e w2 ⟨rfl, rfl⟩
      clear hd
      go_wp2_with (go_at_call 28; fail)
      refine HST.out.mono ?_
      rintro e w3 ⟨rfl, st⟩
      have ST := Lib.hid st
      have hfr : ∀ y, Value.ownBlock u5 = some y → ¬ (HT A y ∨ y = q) := fun y hy => by
        have h1 := (World.ownsRow.lt HR.out.ow y hy).1
        rintro (h2 | h2)
        · have := HQ.out.2.2.2 y h2
          omega
        · have := HQ.out.2.1
          omega
      have HO3 := Lib.hid (HR.out.ow.touch st.t hfr)
      have hT3 := HR.out.t.trans st.t
      have HL1 : Hid ((swL c col l1 p).length ≤ 4096) := by
        have h1 := swL_len (c := c) (col := col) l1 p
        have h2 := HX.out
        have : l1.length ≤ xs.length := by rw [h2, List.length_append]; omega
        show _ ≤ _
        omega
      have HT3 := Lib.hid hT3
      have HS : Hid (swP c col (l1 ++ [a]) p = swStep c col (swP c col l1 p) a ∧ swL c col (l1 ++ [a]) p = swL c col l1 p ++ (if (swP c col l1 p).1.gone col a = true then [a] else [])) := ⟨swP_snoc _ _ _, swL_snoc _ _ _⟩
      have HXa : Hid (xs = (l1 ++ [a]) ++ l2) := by show _ = _; rw [HX.out, List.append_assoc]; rfl
      clear st hfr hT3
      cases G with
      | false =>
        simp only [Bool.false_eq_true, if_false]
        go_wp2
        go_roundg (gk - 1)
        case measure => have := HG.out; simp at this; omega
        case rel =>
          refine ⟨l1 ++ [a], l2, HXa.out, ?_, HT3.out, ?_, (by obtain ⟨v6, hc6, hv6⟩ := ST.out.cu; exact ⟨v6, hc6, fun y hy => HV.out y (hv6 y hy)⟩), ?_⟩
          · have := HG.out
            simp only [List.length_cons] at this
            show _ ≤ _
            omega
          · rw [HS.out.1]
            exact ST.out.hp
          · rw [HS.out.2, HGo.out]
            simp only [Bool.false_eq_true, if_false, List.append_nil]
            exact HO3.out
      | true =>
        simp only [if_true]
        have HS3 : Hid (w.heap.size ≤ w3.heap.size) := HT3.out.size
        go_wp2_with (at_builtin; refine wpList_append_own _ rfl _ _ 46 rfl w.heap.size 3 i0 (.int .i64 0) 1 8 Tryz.underlying46 hi hz0 hz1 hz2 rfl (by decide) _ _ _ rfl (HO3.out.alloc _) ⟨w3.heap.size, 0, none⟩ 1 1 [.int .i64 a] rfl rfl (World.news_of_block (World.alloc_heap_new _ _)) (ints_oneCell _ [a]) (by have := HL1.out; unfold maxLen; omega) (by have := HL1.out; omega) (by have := HS3.out; simp; omega) ?_; intro v3 w4 hown hgrow _; have HW4 := Lib.hid (And.intro hown hgrow); clear hown hgrow)
        go_roundg (gk - 1)
        case measure => have := HG.out; simp at this; omega
        case rel =>
          have T4 : Touch (fun k => Value.ownBlock u5 = some k) w3 w4 := Touch.grown ((Touch.refl _ _).alloc _) HW4.out.2 (fun k e => .inl e)
          have fresh : ∀ k, Value.ownBlock u5 = some k → w.heap.size ≤ k := fun k hk => (World.ownsRow.lt HO3.out k hk).1
          refine ⟨l1 ++ [a], l2, HXa.out, ?_, HT3.out.step T4 (fun k hk => .inr (fresh k hk)), ?_, ?_, ?_⟩
          · have := HG.out
            simp only [List.length_cons] at this
            show _ ≤ _
            omega
          · rw [HS.out.1]
            have hh := ST.out.hp
            refine hh.touch (hh.at'.base.step T4 (fun k hk => .inr (by have := HQ.out.1; have := HQ.out.2.1; have := fresh k hk; omega))) T4 (fun k hk e => ?_)
            have := HQ.out.2.2.2 k hk
            have := fresh k e
            omega
          · obtain ⟨v6, hc6, hv6⟩ := ST.out.cu
            refine ⟨v6, hc6.touch T4 (fun e => ?_) (fun k hk e => ?_), fun y hy => HV.out y (hv6 y hy)⟩
            · have := fresh q e
              have := HQ.out.2.1
              omega
            · have := fresh k e
              have := HV.out k (hv6 k hk)
              omega
          · rw [HS.out.2, HGo.out]
            simp only [if_true]
            show Ow _ _ _ _
            unfold Ow
            rw [List.length_append, List.map_append]
            exact HW4.out.1
end Go.Proofs.YtflhjbmoncbomaaGreatDoor
namespace Go.Proofs.YtflhjbmoncbomaaGreatDoor
open Go.RowKit

variable {W w w1 w2 w' : World} {T : Nat → Prop} {c : Cf} {A : HA} {S S' : HS} {H H' : Nat → List Nat} {q : Nat} {v : Value} {xs : List Int} {b col : Int}
theorem sw_Block_no (b col : Int) (h : HpI W w A c S H) (hn : (b < 0 ∨ (S.s.ks.length : Int) ≤ b) ∨ (col ≠ 0 ∧ col ≠ 1)) : Calls Tryz.prog 26 #[.pointer (some ⟨A.h, 0, none⟩), .int .i64 b, .int .i64 col] w fun e w' => e = .returned (.tuple #[.slice none 0 0, .int .i64 1]) ∧ Touch nob w w' := by
  have hnew : Calls Tryz.prog 25 #[.pointer (some ⟨A.h, 0, none⟩), .int .i64 b, .int .i64 col] w fun e w' => e = .returned (.tuple #[.pointer none, .int .i64 1]) ∧ Touch nob w w' := by
    by_cases hb : b < 0 ∨ (S.s.ks.length : Int) ≤ b
    · exact sw_New_b b col h hb
    · obtain ⟨h0, h1⟩ := hn.resolve_left hb
      obtain ⟨m, rfl⟩ := Int.eq_ofNat_of_zero_le (show 0 ≤ b by omega)
      exact sw_New_col m col h (by omega) h0 h1
  have HN := Lib.hid hnew
  clear hnew h hn
  go_enter Tryz.func26, Tryz.ntmps26
  go_wp2_with (go_at_call 25; fail)
  refine HN.out.mono ?_
  rintro e w1 ⟨rfl, t1⟩
  have H1 := Lib.hid t1
  clear t1
  go_wp2
  go_ret2
  exact ⟨rfl, H1.out⟩
set_option maxRecDepth 10000 in
theorem sw_Block_ok (m : Nat) (col : Int) (h : HpI W w A c S H) (hm : m < S.s.ks.length) (hc : col = 0 ∨ col = 1) : Calls Tryz.prog 26 #[.pointer (some ⟨A.h, 0, none⟩), .int .i64 m, .int .i64 col] w fun e w' => ∃ v', e = .returned (.tuple #[v', .int .i64 0]) ∧ Touch (HT A) w w' ∧ HpI W w' A c (swP c col (slAt c S.s.ks m) (S, H)).1 (swP c col (slAt c S.s.ks m) (S, H)).2 ∧ Ow w' w.heap.size v' (swL c col (slAt c S.s.ks m) (S, H)) := by
  have HH := Lib.hid (And.intro h (And.intro hm hc))
  clear h hm hc
  go_enter Tryz.func26, Tryz.ntmps26
  go_wp2_with (go_at_call 25; fail)
  refine (sw_New_ok m col HH.out.1 HH.out.2.1 HH.out.2.2).mono ?_
  rintro e w1 ⟨q, v, rfl, t1, hq, hq1, cu, hv⟩
  have H1 := Lib.hid (And.intro t1 (And.intro hq (And.intro hq1 (And.intro cu hv))))
  clear t1 hq hq1 cu hv
  go_wp2_with (go_at_call 81; fail)
  refine (sw_run (S, H) (HH.out.1.old H1.out.1) H1.out.2.2.2.1 (Nat.le_trans HH.out.1.at'.base.size H1.out.2.1) H1.out.2.2.1 (Nat.le_trans slAt_le (by decide))).mono ?_
  rintro e w2 ⟨v', rfl, r⟩
  have H2 := Lib.hid r
  obtain ⟨ao, n, cp, rfl⟩ := r.ow.ints.shape'
  clear r
  go_wp2
  go_ret2
  exact ⟨_, rfl, H1.out.1.hnob.step H2.out.t (fun i hi => hi.elim .inl (fun e => .inr (by rw [e]; exact H1.out.2.1))), H2.out.hp, H2.out.ow.base H1.out.1.size⟩
theorem swP_app (l1 l2 : List Int) (p : HS × (Nat → List Nat)) : swP c col (l1 ++ l2) p = swP c col l2 (swP c col l1 p) := by
  unfold swP
  rw [List.foldl_append]
theorem swL_app : ∀ (l1 l2 : List Int) (p : HS × (Nat → List Nat)), swL c col (l1 ++ l2) p = swL c col l1 p ++ swL c col l2 (swP c col l1 p)
  | [], _, _ => rfl
  | x :: l1, l2, p => by
    show (if _ then [x] else []) ++ swL c col (l1 ++ l2) (swStep c col p x) = ((if _ then [x] else []) ++ swL c col l1 (swStep c col p x)) ++ _
    rw [swL_app l1 l2, List.append_assoc]
    rfl
theorem freS_ks (S : HS) (c : Cf) (a : Int) : (S.freS c a).s.ks = S.s.ks := by
  unfold HS.freS HS.putS
  split
  · split <;> rfl
  · rfl
theorem swP_ks : ∀ (l : List Int) (p : HS × (Nat → List Nat)), (swP c col l p).1.s.ks = p.1.s.ks
  | [], _ => rfl
  | a :: l, p => by
    show (swP c col l (swStep c col p a)).1.s.ks = _
    rw [swP_ks l]
    unfold swStep
    show (if p.1.gone col a = true then p.1.freS c a else p.1).s.ks = _
    split
    · exact freS_ks _ _ _
    · rfl
theorem sw_All_no (col : Int) (h0 : col ≠ 0) (h1 : col ≠ 1) (b : Nat) (w : World) : Calls Tryz.prog 27 #[.pointer (some ⟨b, 0, none⟩), .int .i64 col] w fun e w' => e = .returned (.tuple #[.slice none 0 0, .int .i64 1]) ∧ w = w' := by
  have HD := Lib.hid (show (decide (col = 0) || decide (col = 1)) = false by rw [decide_eq_false h0, decide_eq_false h1]; rfl)
  clear h0 h1
  go_enter Tryz.func27, Tryz.ntmps27
  go_wp2_with fail
  go_step3
  go_wp2_with fail
  go_wp2_with (go_at_call 80; fail)
  refine (sw_color col _).mono ?_
  rintro e w3 ⟨rfl, rfl⟩
  rw [HD.out]
  go_wp2_with fail
  rw [Exit.noGoto_ret]
  go_ret2
  exact ⟨rfl, rfl⟩
/-- While all is swept: behind j blocks. -/
structure AlI (W w : World) (A : HA) (c : Cf) (p : HS × (Nat → List Nat)) (col : Int) (j : Nat) (vo : Value) (wr : World) : Prop where
  t : Touch (HT A) w wr
  hp : HpI W wr A c (swP c col (allSl c p.1.s.ks j) p).1 (swP c col (allSl c p.1.s.ks j) p).2
  ow : Ow wr w.heap.size vo (swL c col (allSl c p.1.s.ks j) p)
set_option maxRecDepth 10000 in
set_option maxHeartbeats 1000000 in
theorem sw_All (p : HS × (Nat → List Nat)) (col : Int) (h : HpI W w A c p.1 p.2) (hc : col = 0 ∨ col = 1) : Calls Tryz.prog 27 #[.pointer (some ⟨A.h, 0, none⟩), .int .i64 col] w fun e w' => ∃ v', e = .returned (.tuple #[v', .int .i64 0]) ∧ AlI W w A c p col p.1.s.ks.length v' w' := by
  have HD := Lib.hid (show (decide (col = 0) || decide (col = 1)) = true by rcases hc with rfl | rfl <;> rfl)
  have H0 : Hid (AlI W w A c p col 0 (.slice none 0 0) w) := ⟨Touch.refl _ _, h, World.ownsRow_nil _ _ _ _⟩
  obtain ⟨nb, hnb⟩ : ∃ nb, A.L.n = nb := ⟨_, rfl⟩
  have htb := h.tb
  rw [hnb] at htb
  have HQ := Lib.hid (And.intro h (And.intro htb (And.intro hc h.at'.lt)))
  have hnc := htb.hn
  have hf0 : ∀ w, (Instr.field 23 c.V 0).run Tryz.prog w = .ok (.int .i64 nb) w := fun w => by rw [hnc]; exact run_cfg_blocks c.c0 c.c1 c.c2 c.c3 c.c4 c.c5 c.c6 w
  clear h hnb htb hnc
  go_enter Tryz.func27, Tryz.ntmps27
  go_wp2_with fail
  go_step3
  go_wp2_with fail
  go_wp2_with (go_at_call 80; fail)
  refine (sw_color col _).mono ?_
  rintro e w3 ⟨rfl, rfl⟩
  rw [HD.out]
  go_wp2_with fail
  go_step3
  go_wp2_with (go_at_call 46; fail)
  refine (hp_Config HQ.out.1).mono ?_
  rintro e w2 ⟨rfl, t2⟩
  have T2 := Lib.hid t2
  clear t2
  go_wp2_with fail
  have H1 : Hid (AlI W w A c p col 0 (.slice none 0 0) w2) := ⟨H0.out.t.trans T2.out.hnob, H0.out.hp.old T2.out, H0.out.ow.touch T2.out (fun _ _ x => x)⟩
  obtain ⟨N, hN⟩ : ∃ N, p.1.s.ks.length = N := ⟨_, rfl⟩
  have HNk := Lib.hid hN
  have hNn : N ≤ nb := by have := HQ.out.2.1.le; omega
  have hnb4 : nb ≤ 4096 := by
    obtain ⟨ct, hb⟩ := HQ.out.1.at'.ls.tb
    have := hb.n4.2
    have h3 := HQ.out.2.1.hn
    have h4 := hb.hn
    omega
  have hall : Hid (∀ m, m ≤ nb → (allSl c p.1.s.ks m).length ≤ 1048576) := fun m hm => by
    have h1 := allSl_le (c := c) (ks := p.1.s.ks) m
    omega
  clear H0 hN
  go_loopw [20, 6] (fun i vo wr => ∃ j : Nat, j ≤ N ∧ i = .int .i64 j ∧ Hid (AlI W w A c p col j vo wr)) (fun i _ _ => N - (intOf i).toNat)
  case atStart => exact ⟨0, Nat.zero_le _, rfl, H1.out⟩
  case round =>
    obtain ⟨j, hj, rfl, HR⟩ := hrel
    clear H1
    by_cases hlt : j < N
    · have hb : (j : Int) < (nb : Int) := by omega
      have hks : (swP c col (allSl c p.1.s.ks j) p).1.s.ks = p.1.s.ks := swP_ks _ _
      have hbl := sw_Block_ok j col HR.out.hp (by rw [hks, HNk.out]; exact hlt) hc
      rw [hks] at hbl
      have HBL := Lib.hid hbl
      clear hbl hks
      go_wp2_with (go_at_call 26; fail)
      refine HBL.out.mono ?_
      rintro e w3 ⟨v3, rfl, t3, hp3, ow3⟩
      have hfr : ∀ y, Value.ownBlock u6 = some y → ¬ HT A y := fun y hy h2 => by
        have h1 := (World.ownsRow.lt HR.out.ow y hy).1
        have := HQ.out.2.2.2 y h2
        omega
      have HO3 := Lib.hid (HR.out.ow.touch t3 hfr)
      have H3 := Lib.hid (And.intro t3 (And.intro hp3 ow3))
      obtain ⟨ao, n3, cp, rfl⟩ := ow3.ints.shape'
      have HS : Hid (swP c col (allSl c p.1.s.ks (j + 1)) p = swP c col (slAt c p.1.s.ks j) (swP c col (allSl c p.1.s.ks j) p) ∧ swL c col (allSl c p.1.s.ks (j + 1)) p = swL c col (allSl c p.1.s.ks j) p ++ swL c col (slAt c p.1.s.ks j) (swP c col (allSl c p.1.s.ks j) p)) := ⟨swP_app _ _ _, swL_app _ _ _⟩
      have HL : Hid ((swL c col (allSl c p.1.s.ks j) p).length + (swL c col (slAt c p.1.s.ks j) (swP c col (allSl c p.1.s.ks j) p)).length ≤ 1048576) := by
        have h1 := hall.out (j + 1) (by omega)
        have h2 := swL_len (c := c) (col := col) (allSl c p.1.s.ks (j + 1)) p
        rw [HS.out.2, List.length_append] at h2
        show _ ≤ _
        omega
      have HB3 : Hid (w.heap.size ≤ w3.heap.size) := (HR.out.t.trans t3).size
      clear t3 hp3 ow3 hfr
      go_wp2_with (at_builtin; refine wpList_append_sx rfl _ _ rfl w.heap.size _ _ _ _ rfl HO3.out rfl H3.out.2.2.sx HL.out HB3.out ?_; intro v4 w4 hown hgrow _; have H4 := Lib.hid (And.intro hown hgrow); clear hown hgrow)
      go_roundw
      case rel =>
        refine ⟨j + 1, by omega, by go_num, ?_⟩
        have T4 : Touch (fun k => Value.ownBlock u6 = some k) w3 w4 := Touch.grown (Touch.refl _ _) H4.out.2 (fun k e => .inl e)
        have fresh : ∀ k, Value.ownBlock u6 = some k → w.heap.size ≤ k := fun k hk => (World.ownsRow.lt HO3.out k hk).1
        refine ⟨(HR.out.t.trans H3.out.1).step T4 (fun k hk => .inr (fresh k hk)), ?_, ?_⟩
        · rw [HS.out.1]
          have hh := H3.out.2.1
          refine hh.touch (hh.at'.base.step T4 (fun k hk => .inr (Nat.le_trans HQ.out.1.at'.base.size (fresh k hk)))) T4 (fun k hk e => ?_)
          have := HQ.out.2.2.2 k hk
          have := fresh k e
          omega
        · rw [HS.out.2]
          exact H4.out.1
      case measure => simp [intOf]; omega
    · obtain rfl : j = N := by omega
      by_cases hnb : j < nb
      · have hb : (j : Int) < (nb : Int) := by omega
        have hks : (swP c col (allSl c p.1.s.ks j) p).1.s.ks = p.1.s.ks := swP_ks _ _
        have hbl := sw_Block_no j col HR.out.hp (.inl (.inr (by rw [hks, HNk.out]; exact Int.le_refl _)))
        have HBL := Lib.hid hbl
        clear hbl hks
        go_wp2_with (go_at_call 26; fail)
        refine HBL.out.mono ?_
        rintro e w3 ⟨rfl, t3⟩
        have H3 : Hid (AlI W w A c p col j u6 w3) := ⟨HR.out.t.trans t3.hnob, HR.out.hp.old t3, HR.out.ow.touch t3 (fun _ _ x => x)⟩
        clear t3
        go_wp2_with fail
        rw [Exit.noGoto_ret]
        go_ret2
        refine ⟨_, rfl, ?_⟩
        rw [HNk.out]
        exact H3.out
      · have hb : ¬ (j : Int) < (nb : Int) := by omega
        go_wp2_with fail
        go_ret2
        refine ⟨_, rfl, ?_⟩
        rw [HNk.out]
        exact HR.out
end Go.Proofs.YtflhjbmoncbomaaGreatDoor
