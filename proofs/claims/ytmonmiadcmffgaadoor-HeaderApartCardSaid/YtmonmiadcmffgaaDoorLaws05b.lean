/- The law of headers that are apart, walked. -/
import Derived.Test.YtmonmiadcmffgaaDoorLaws05
import Derived.ChangeKeysEq
namespace Go.Proofs.YtmonmiadcmffgaaDoor
open Go.RowKit

theorem run_two_eql (a0 a1 b0 b1 : Int) (w : World) :
    (binOp .eql 40 (.agg #[.int .i64 a0, .int .i64 a1]) (.agg #[.int .i64 b0, .int .i64 b1])).run Tryd.prog w = .ok (.bool (a0 == b0 && a1 == b1)) w := by
  obtain ⟨ti, hti⟩ : ∃ i, Tryd.prog.info? 3 = some i := Option.isSome_iff_exists.1 (by kernel_rfl)
  have hn : (Op.equalIn 10000 40 (.agg #[.int .i64 a0, .int .i64 a1]) (.agg #[.int .i64 b0, .int .i64 b1])).run Tryd.prog w = .ok (a0 == b0 && a1 == b1) w := by
    rw [show (10000 : Nat) = 9999 + 1 from rfl, run_equalIn_array (w := w) 9999 (n := 2) (e := 3) (i := ti) _ _ (by kernel_rfl) hti]
    have hc : Tryd.prog.cellsOf 3 = 1 := by kernel_rfl
    have hq : ∀ (d : Nat) (x y : Int) (w : World), (Op.equalIn (d + 1) 3 (.int .i64 x) (.int .i64 y)).run Tryd.prog w = .ok (x == y) w := by
      intro d x y w
      simp [Op.equalIn, go_sem]
    have hq := hq 9998
    have hp : ∀ (x y : Int) (i : Nat) (w : World), (part 3 #[.int .i64 x, .int .i64 y] 0).run Tryd.prog w = .ok (.int .i64 x) w ∧ (part 3 #[.int .i64 x, .int .i64 y] 1).run Tryd.prog w = .ok (.int .i64 y) w := by
      intro x y i w
      constructor <;> go_simp
    simp only [List.range, List.range.loop, Op.eqItems, hc, Sem.run_bind, (hp _ _ 0 _).1, Nat.zero_mul, Nat.one_mul, Result.andThen_ok, hq]
    cases (a0 == b0)
    · rfl
    · simp [Sem.run_bind, (hp _ _ 0 _).2, Result.andThen_ok, hq]
      split <;> simp_all
  go_simp

theorem Sizes.touch5 {S : Nat → Prop} {w w' : World} (h : Sizes w) (ht : Touch S w w') (hs : ¬ S 0) : Sizes w' := by
  have hg : 0 < w.heap.size := by
    obtain ⟨o, ho, _⟩ := cells_of_cell h.1
    exact (Array.getElem?_eq_some_iff.1 ho).1
  exact ⟨(ht.cell hg hs).trans h.1, (ht.cell hg hs).trans h.2.1, (ht.cell hg hs).trans h.2.2.1, (ht.cell hg hs).trans h.2.2.2⟩

theorem hObj_inj {q0 q1 p0 p1 : Int} (hq : objOk q0 q1 = true) (hp : objOk p0 p1 = true) : (hObj q0 q1 == hObj p0 p1) = (q0 == p0 && q1 == p1) := by
  obtain ⟨_, _, _, _, c, d, _⟩ := obj_facts hq
  obtain ⟨_, _, _, _, c', d', _⟩ := obj_facts hp
  rw [Bool.eq_iff_iff]
  simp only [beq_iff_eq, Bool.and_eq_true]
  constructor
  · intro h; rw [h] at c d; exact ⟨c.symm.trans c', d.symm.trans d'⟩
  · rintro ⟨rfl, rfl⟩; rfl
theorem hLink_inj (a0 a1 : Int) : (hLink a0 == hLink a1) = (a0 == a1) := by
  rw [Bool.eq_iff_iff]; simp only [beq_iff_eq]; unfold hLink laidI; omega
theorem hObj_ne_link {q0 q1 a : Int} (hq : objOk q0 q1 = true) (ha : linkOk a = true) : (hObj q0 q1 == hLink a) = false := by
  obtain ⟨_, _, _, c, _, _, _⟩ := obj_facts hq
  obtain ⟨_, _, d, _, _, _⟩ := link_facts ha
  rw [beq_eq_false_iff_ne]; intro h; rw [h, d] at c; exact absurd c (by decide)

theorem two_box {W : World} {b : Nat} {t : TypeId} {x y : Int} (h : W.heap[b]? = some (Obj.cells #[.int .i64 x, .int .i64 y] t)) : W.cell? ⟨b, 0, none⟩ = some (.int .i64 x) ∧ W.cell? ⟨b, 1, none⟩ = some (.int .i64 y) := by
  simp [World.cell?, h]
theorem alloc3 (w : World) (o0 o1 o2 : Obj) : (((w.alloc o0).alloc o1).alloc o2).heap[w.heap.size]? = some o0 ∧ (((w.alloc o0).alloc o1).alloc o2).heap[w.heap.size + 1]? = some o1 ∧ (((w.alloc o0).alloc o1).alloc o2).heap[w.heap.size + 1 + 1]? = some o2 := by
  simp only [heap_alloc_if, World.size_alloc]
  refine ⟨?_, ?_, ?_⟩
  · rw [if_neg (by omega), if_neg (by omega)]; simp
  · rw [if_neg (by omega)]; simp
  · simp

set_option maxHeartbeats 1000000 in
theorem law_HeaderApart (q0 : Int) (_ : (Lit.int .i64 q0).wf = true) (q1 : Int) (_ : (Lit.int .i64 q1).wf = true) (p0 : Int) (_ : (Lit.int .i64 p0).wf = true) (p1 : Int) (_ : (Lit.int .i64 p1).wf = true) (a0 : Int) (_ : (Lit.int .i64 a0).wf = true) (a1 : Int) (_ : (Lit.int .i64 a1).wf = true) (w : World) (hS : Sizes w) :
    Calls Tryd.prog 8 #[.agg #[.int .i64 q0, .int .i64 q1], .agg #[.int .i64 p0, .int .i64 p1], .agg #[.int .i64 a0, .int .i64 a1]] w fun e w' => e = .returned (.bool true) ∧ Below w.heap.size w w' := by
  have HS := Lib.hid hS
  clear hS
  have hrun := run_two_eql q0 q1 p0 p1
  obtain ⟨l, hl1, hl2⟩ : ∃ l, (hLink a0 == hLink a1) = l ∧ (a0 == a1) = l := ⟨_, hLink_inj _ _, rfl⟩
  go_enter Tryd.func8, Tryd.ntmps8
  go_wp2_with fail
  obtain ⟨W, hW⟩ : ∃ W, W = ((w.alloc (Obj.cells #[.int .i64 q0, .int .i64 q1] 40)).alloc (Obj.cells #[.int .i64 p0, .int .i64 p1] 40)).alloc (Obj.cells #[.int .i64 a0, .int .i64 a1] 40) := ⟨_, rfl⟩
  rw [← hW]
  have HT : Hid (Touch nob w W) := by show Touch nob w W; rw [hW]; repeat (first | with_reducible exact Touch.refl _ _ | with_reducible assumption | with_reducible apply Touch.alloc | with_reducible apply Touch.drewN | with_reducible apply Touch.drew | with_reducible refine Touch.setCell ?_ (.inr (by first | omega | (simp; done) | (simp; omega))) _)
  obtain ⟨b0, b1, b2⟩ := alloc3 w (Obj.cells #[.int .i64 q0, .int .i64 q1] 40) (Obj.cells #[.int .i64 p0, .int .i64 p1] 40) (Obj.cells #[.int .i64 a0, .int .i64 a1] 40)
  rw [← hW] at b0 b1 b2
  have HZ : Hid (Sizes W) := HS.out.touch5 (S := nob) HT.out (fun h => h)
  obtain ⟨k0, k1⟩ := two_box b0
  obtain ⟨k2, k3⟩ := two_box b1
  obtain ⟨k4, k5⟩ := two_box b2
  clear hW b0 b1 b2 HS
  have HX : Hid (objOk q0 q1 = true → linkOk a0 = true → (hObj q0 q1 == hLink a0) = false ∧ hObj q0 q1 ≠ hLink a0) := fun h1 h2 => ⟨hObj_ne_link h1 h2, beq_eq_false_iff_ne.1 (hObj_ne_link h1 h2)⟩
  have HE : Hid (objOk q0 q1 = true → objOk p0 p1 = true → (hObj q0 q1 == hObj p0 p1) = (q0 == p0 && q1 == p1)) := hObj_inj
  obtain ⟨s, hs2⟩ : ∃ s, (q0 == p0 && q1 == p1) = s := ⟨_, rfl⟩
  rw [hs2] at hrun HE
  clear hs2
  cases hq : objOk q0 q1 <;> cases hp : objOk p0 p1 <;> cases ha : linkOk a0 <;> cases hb : linkOk a1
  all_goals
    have HQ := Lib.hid hq
    have HP := Lib.hid hp
    have HA := Lib.hid ha
    have HB := Lib.hid hb
    try have hx := HX.out hq ha
    try have he := HE.out hq hp
    try obtain ⟨hx, hx'⟩ := hx
    clear hq hp ha hb HX HE
    go_wp2_with (first | (go_at_call 39; refine (header_Object _ _ _ HZ.out).mono ?_; rintro e w' ⟨rfl, rfl⟩; first | rw [HQ.out] | rw [HP.out]) | (go_at_call 40; refine (header_Link _ _).mono ?_; rintro e w' ⟨rfl, rfl⟩; first | rw [HA.out] | rw [HB.out]) | (go_at_call 41; refine (law05_awake _ HZ.out).mono ?_; rintro e w' ⟨rfl, rfl⟩))
    go_ret
    first | exact ⟨rfl, HT.out.below⟩ | exact ⟨ret_bool (bne_iff_ne.2 hx'), HT.out.below⟩
end Go.Proofs.YtmonmiadcmffgaaDoor
