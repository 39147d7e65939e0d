/- The law of class.Starts, walked. Conditions: the table of sizes reads as laid. -/
import Derived.Test.YtmonmiadcmffgaaDoorStarts
import Derived.Test.YtmonmiadcmffgaaDoorRound
import Derived.Test.YtmonmiadcmffgaaDoorLaws03
namespace Go.Proofs.YtmonmiadcmffgaaDoor
open Go.RowKit Go.Shelf
attribute [local go_sem] Oper.semAt_some

theorem abd_touch {S : Nat → Prop} {w A B : World} {n : Nat} {O : Nat → Prop} (h : Touch S w A) (hab : AbD n O A B) (hn : w.heap.size ≤ n) : Touch S w B := h.step hab (fun _ hi => .inr (Nat.le_trans hn hi.1))
theorem abd_block {A B : World} {n k : Nat} {O : Nat → Prop} (hab : AbD n O A B) (hk : k < n) (hA : k < A.heap.size) : B.heap[k]? = A.heap[k]? := hab.block k hA (fun h => by omega)
theorem abd_boxed {A B : World} {n k : Nat} {O : Nat → Prop} {o : Obj} (hab : AbD n O A B) (hk : k < n) (hA : A.heap[k]? = some o) : B.heap[k]? = some o := (abd_block hab hk (Array.getElem?_eq_some_iff.1 hA).1).trans hA
theorem prefix_of_range {n x : Nat} {pre : List Nat} (h : pre ++ [x] <+: List.range n) : x = pre.length ∧ pre.length < n ∧ pre = List.range pre.length := by
  have h1 := List.prefix_iff_eq_take.1 h
  have hl : pre.length + 1 ≤ n := by have := h.length_le; simpa using this
  have h2 : pre ++ [x] = List.range (pre.length + 1) := by rw [h1]; simp [List.take_range, Nat.min_eq_left hl]
  rw [List.range_succ] at h2
  obtain ⟨h3, h4⟩ := List.append_inj' h2 rfl
  exact ⟨by simpa using h4, by omega, h3⟩
theorem prefix_range_len {n : Nat} {pre : List Nat} (h : pre <+: List.range n) : pre.length ≤ n ∧ pre = List.range pre.length := by
  have hl : pre.length ≤ n := by have := h.length_le; simpa using this
  have h1 := List.prefix_iff_eq_take.1 h
  exact ⟨hl, by rw [h1]; simp [List.take_range, Nat.min_eq_left hl]⟩

theorem abD_T : ∀ n O A B, AbD n O A B → AbD n O A B := fun _ _ _ _ h => h
theorem abD_M : ∀ (m n : Nat) (O O' : Nat → Prop) (A B : World), (∀ b, O' b → O b) → m ≤ n → AbD n O A B → AbD m O' A B :=
  fun _ _ _ _ _ _ h hm hab => Touch.mono hab (fun _ _ hi => ⟨Nat.le_trans hm hi.1, fun x => hi.2 (h _ x)⟩)
theorem abD_O : ∀ (n : Nat) (O : Nat → Prop) (A B : World) (k : Nat) (o : Obj), AbD n O A B → O k → A.heap[k]? = some o → o.isCells = false → B.heap[k]? = some o :=
  fun _ _ _ _ _ _ hab hO hk _ => (hab.block _ (Array.getElem?_eq_some_iff.1 hk).1 (fun x => x.2 hO)).trans hk

set_option maxHeartbeats 400000 in
theorem class_Starts (x k : Int) (w : World) :
    Calls Tryd.prog 38 #[.int .i64 x, .int .i64 k] w fun e w' => e = .returned (.func (.func 66) #[] #[.pointer (some ⟨w.heap.size, 0, none⟩), .pointer (some ⟨w.heap.size + 1, 0, none⟩)]) ∧ w' = (w.alloc (.cells #[.int .i64 x] 3)).alloc (.cells #[.int .i64 k] 3) := by
  have hmf : ∀ (fn : Fn) (first cap : Array Value) (w : World), (Instr.makeFunc fn first cap).run Tryd.prog w = .ok (.func fn first cap) w := fun _ _ _ _ => rfl
  go_enter Tryd.func38, Tryd.ntmps38
  go_wp2
  go_ret
  exact ⟨rfl, rfl⟩

def StI (W : World) (B : Nat) (s : Int) (pre : List Nat) (O : Nat → Prop) (A : World) : Prop :=
  (∀ b, O b ↔ (b = B + 1 + 1 + 1 ∨ b = B + 1 + 1 + 1 + 1 + 1 + 1)) ∧ Touch (fun b => b = B + 1 + 1 + 1 ∨ b = B + 1 + 1 + 1 + 1 + 1 + 1) W A ∧ A.heap[B + 1 + 1 + 1]? = some (Obj.cells #[Value.bool false] 4) ∧
    A.heap[B + 1 + 1 + 1 + 1 + 1 + 1]? = some (Obj.cells #[Value.int IntKind.i64 pre.length] 3) ∧ (s = 0 ∨ (pre.length : Int) < s)
def StX (W : World) (B : Nat) (s : Int) (c : Code) (pre : List Nat) (O : Nat → Prop) (A : World) : Prop :=
  c = Code.exit 0 ∧ (∀ b, O b ↔ (b = B + 1 + 1 + 1 ∨ b = B + 1 + 1 + 1 + 1 + 1 + 1)) ∧ Touch (fun b => b = B + 1 + 1 + 1 ∨ b = B + 1 + 1 + 1 + 1 + 1 + 1) W A ∧ A.heap[B + 1 + 1 + 1]? = some (Obj.cells #[Value.bool false] 4) ∧
    A.heap[B + 1 + 1 + 1 + 1 + 1 + 1]? = some (Obj.cells #[Value.int IntKind.i64 pre.length] 3) ∧ (0 < s ∧ (pre.length : Int) = s)

set_option maxHeartbeats 800000 in
theorem law_ClassStarts (x : Int) (_ : (Lit.int .i64 x).wf = true) (k : Int) (_ : (Lit.int .i64 k).wf = true) (s : Int) (hs : (Lit.int .u8 s).wf = true) (w : World) (hS : Sizes w) :
    Calls Tryd.prog 7 #[.int .i64 x, .int .i64 k, .int .u8 s] w fun e w' => e = .returned (.bool true) ∧ Below w.heap.size w w' := by
  obtain ⟨s0, s1⟩ := bounds_u8 hs
  clear hs
  refine (callsIn_wide (n := 0)).1 (callsIn_of_wp_marks Tryd.func7 rfl trivial ?_ rfl)
  simp only [Tryd.ntmps7, List.size_toArray, List.length_cons, List.length_nil, Nat.reduceAdd, Nat.reduceSub, Array.replicate_succ, Array.replicate_zero, List.push_toArray, List.append_toArray, List.nil_append, List.cons_append]
  have hg : 0 < w.heap.size := by
    obtain ⟨o, ho, _⟩ := cells_of_cell hS.1
    exact (Array.getElem?_eq_some_iff.1 ho).1
  have HS := Lib.hid hS
  have HB := Lib.hid (show ∀ w', Touch nob w w' → Sizes w' from fun w' h => ⟨(h.cell hg (fun x => x)).trans hS.1, (h.cell hg (fun x => x)).trans hS.2.1, (h.cell hg (fun x => x)).trans hS.2.2.1, (h.cell hg (fun x => x)).trans hS.2.2.2⟩)
  clear hS
  have hnf : ∀ (fn : Fn) (a b : Array Value) (w : World), (binOp .eql 37 (.func fn a b) .nilFunc).run Tryd.prog w = .ok (.bool false) w := fun _ _ _ _ => by kernel_rfl
  gi_wp2_with (first | (refine ⟨trivial, rfl, ?_⟩; gi_at_call 24; refine (callsIn_wide.2 (class_PerBlock x k _ (HB.out _ (by repeat (first | exact Touch.refl _ _ | apply Touch.alloc))))).mono ?_; rintro e w' ⟨rfl, rfl⟩) | (refine ⟨trivial, rfl, ?_⟩; gi_at_call 37; refine (callsIn_wide.2 (ref03_Per x k _)).mono ?_; rintro e w' ⟨rfl, rfl⟩) | (refine ⟨trivial, rfl, ?_⟩; gi_at_call 38; refine (callsIn_wide.2 (class_Starts x k _)).mono ?_; rintro e w' ⟨rfl, rfl⟩))
  have hpb : 0 ≤ perBlock x k := by
    unfold perBlock
    split
    · rename_i hh
      simp only [Bool.and_eq_true, wordsOk, decide_eq_true_eq] at hh
      exact (per_bd x (clsSize k) (by omega) (by omega) (clsSize_lo hh.1) (clsSize_bd k).2).1
    · exact Int.le_refl _
  obtain ⟨n, hn⟩ := Int.eq_ofNat_of_zero_le hpb
  clear hpb
  rw [hn]
  have HN := Lib.hid hn
  clear hn
  obtain ⟨W, hW⟩ : ∃ W, W = (((((((w.alloc (Obj.cells #[Value.int IntKind.i64 x] 3)).alloc (Obj.cells #[Value.int IntKind.i64 k] 3)).alloc (Obj.cells #[Value.int IntKind.u8 s] 5)).alloc (Obj.cells #[Value.bool false] 4)).alloc (Obj.cells #[Value.int IntKind.i64 x] 3)).alloc (Obj.cells #[Value.int IntKind.i64 k] 3)).alloc (Obj.cells #[Value.int IntKind.i64 0] 3)) := ⟨_, rfl⟩
  rw [← hW]
  have hsz : W.heap.size = w.heap.size + 7 := by rw [hW]; simp
  have hT : Touch nob w W := by rw [hW]; repeat (first | exact Touch.refl _ _ | apply Touch.alloc)
  have b0 : W.heap[w.heap.size]? = some (Obj.cells #[Value.int IntKind.i64 x] 3) := by rw [hW]; simp only [heap_alloc_if, World.size_alloc]; repeat (first | rw [if_pos rfl] | rw [if_pos trivial] | rw [if_neg (by omega)])
  have b1 : W.heap[w.heap.size + 1]? = some (Obj.cells #[Value.int IntKind.i64 k] 3) := by rw [hW]; simp only [heap_alloc_if, World.size_alloc]; repeat (first | rw [if_pos rfl] | rw [if_pos trivial] | rw [if_neg (by omega)])
  have b2 : W.heap[w.heap.size + 1 + 1]? = some (Obj.cells #[Value.int IntKind.u8 s] 5) := by rw [hW]; simp only [heap_alloc_if, World.size_alloc]; repeat (first | rw [if_pos rfl] | rw [if_pos trivial] | rw [if_neg (by omega)])
  have b3 : W.heap[w.heap.size + 1 + 1 + 1]? = some (Obj.cells #[Value.bool false] 4) := by rw [hW]; simp only [heap_alloc_if, World.size_alloc]; repeat (first | rw [if_pos rfl] | rw [if_pos trivial] | rw [if_neg (by omega)])
  have b4 : W.heap[w.heap.size + 1 + 1 + 1 + 1]? = some (Obj.cells #[Value.int IntKind.i64 x] 3) := by rw [hW]; simp only [heap_alloc_if, World.size_alloc]; repeat (first | rw [if_pos rfl] | rw [if_pos trivial] | rw [if_neg (by omega)])
  have b5 : W.heap[w.heap.size + 1 + 1 + 1 + 1 + 1]? = some (Obj.cells #[Value.int IntKind.i64 k] 3) := by rw [hW]; simp only [heap_alloc_if, World.size_alloc]; repeat (first | rw [if_pos rfl] | rw [if_pos trivial] | rw [if_neg (by omega)])
  have b6 : W.heap[w.heap.size + 1 + 1 + 1 + 1 + 1 + 1]? = some (Obj.cells #[Value.int IntKind.i64 0] 3) := by rw [hW]; simp only [heap_alloc_if, World.size_alloc]; repeat (first | rw [if_pos rfl] | rw [if_pos trivial] | rw [if_neg (by omega)])
  clear hW
  have HW : Hid (Touch nob w W ∧ W.heap.size = w.heap.size + 7) := ⟨hT, hsz⟩
  have HC := Lib.hid (show _ ∧ _ ∧ _ from ⟨b0, b1, b2⟩)
  have hIt := starts1_iter x k (w.heap.size + 1 + 1 + 1 + 1) (w.heap.size + 1 + 1 + 1 + 1 + 1) n HN.out W (HB.out W hT) (by omega) (by omega) (by omega) (one_cell b4) (one_cell b5)
  refine rf_law1 ?a1 (O₀ := fun b => b = w.heap.size + 1 + 1 + 1 ∨ b = w.heap.size + 1 + 1 + 1 + 1 + 1 + 1) rfl (enters_of Tryd.func66 (by kernel_rfl) rfl) hIt (fun _ => rfl) abD_T abD_M abD_O (fun _ _ _ _ _ _ _ => trivial)
    (StI W w.heap.size s) (StX W w.heap.size s)
    (fun b hb => by
      have h := HW.out.2
      rcases hb with rfl | rfl | rfl
      · exact ⟨by omega, by omega⟩
      · exact ⟨by omega, by omega⟩
      · exact ⟨by omega, by omega⟩)
    (fun b hb => by have h := HW.out.2; omega)
    (fun pre O A B ⟨h1, h2, h3, h4, h5⟩ hab => ⟨h1, abd_touch h2 hab (Nat.le_refl _), abd_boxed hab (by omega) h3, abd_boxed hab (by omega) h4, h5⟩)
    (fun c pre O A B ⟨h0, h1, h2, h3, h4, h5⟩ hab => ⟨h0, h1, abd_touch h2 hab (Nat.le_refl _), abd_boxed hab (by omega) h3, abd_boxed hab (by omega) h4, h5⟩)
    ⟨fun _ => Iff.rfl, Touch.refl _ _, b3, b6, by simp; omega⟩ ?assign ?body ?done ?stop
  case assign =>
    intro l x A K hK
    gi_wp2
    exact hK
  case body =>
    rintro l pre i O A ⟨i1, i2, i3, i4, i5⟩ hpre
    obtain ⟨rfl, hlt, hpr⟩ := prefix_of_range hpre
    have hk : isCls k = true ∧ wordsOk x = true := by
      have := HN.out
      unfold perBlock at this
      split at this
      · rename_i hh; simpa using hh
      · omega
    obtain ⟨x0, x1⟩ : 16 ≤ x ∧ x ≤ 256 := by have := hk.2; simpa [wordsOk] using this
    obtain ⟨p0, p1, p2, p3⟩ := per_facts x k hk.1 x0 x1
    rw [HN.out] at p0 p1 p2 p3
    have q0 := clsSize_lo hk.1
    have q1 := (clsSize_bd k).2
    have q2 : (0 : Int) ≤ pre.length * clsSize k := Int.mul_nonneg (by omega) (by omega)
    have q3 : ((pre.length : Int) + 1) * clsSize k ≤ n * clsSize k := Int.mul_le_mul_of_nonneg_right (by omega) (by omega)
    rw [Int.add_mul, Int.one_mul] at q3
    have q4 : (pre.length : Int) * clsSize k + clsSize k ≤ x := by omega
    obtain ⟨b0, b1, b2⟩ := HC.out
    have c0 := one_cell ((i2.block _ (by have := HW.out.2; omega) (by omega)).trans b0)
    have c1 := one_cell ((i2.block _ (by have := HW.out.2; omega) (by omega)).trans b1)
    have c2 := one_cell ((i2.block _ (by have := HW.out.2; omega) (by omega)).trans b2)
    have c6 := one_cell i4
    have f6 := one_free i4
    have H1 := Lib.hid i1
    have H2 := Lib.hid i2
    have H3 := Lib.hid i3
    have H4 := Lib.hid i4
    have H5 := Lib.hid i5
    have HP := Lib.hid hpr
    clear hIt i1 i2 i3 i4 i5 hpr hpre p2 p3 q3 hk hT b0 b1 b2 b3 b4 b5 b6 HC
    gi_wp2_with fail
    refine wpInR_region_quiet_lit (by kernel_rfl) (by kernel_rfl) (by kernel_rfl) ?_
    repeat (go_big_quiet_step (((go_at_call 21; exact Calls.quiet_of_same ((ref03_Size _ _).mono fun _ _ h => ⟨h.1, h.2.symm⟩)))))
    refine wpQuiet_nil ?_; intro _ hw'; obtain ⟨nq, hw''⟩ := hw'; subst hw''
    gi_wp2_with fail
    · have hs : (pre.length : Int) + 1 = s := by simpa using (by assumption : ((pre.length : Int) + 1 == s) = true)
      refine ⟨O, (((Touch.refl _ _).drewN nq).setCell (.inl ((H1.out _).2 (.inr rfl))) _), fun _ h => .inl h, rfl, H1.out, ?_, ?_, ?_, by omega, by simp; omega⟩
      · exact (H2.out.trans ((Touch.refl _ _).drewN nq)).setCell (.inl (.inr rfl)) _
      · exact (set_other _ (by omega)).trans H3.out
      · exact (set_one (w := A.drewN nq) _ H4.out).trans (by simp)
    · have hs : ¬ (pre.length : Int) + 1 = s := by simpa using (by assumption : ((pre.length : Int) + 1 == s) = false)
      refine ⟨O, (((Touch.refl _ _).drewN nq).setCell (.inl ((H1.out _).2 (.inr rfl))) _), fun _ h => .inl h, trivial, H1.out, ?_, ?_, ?_, ?_⟩
      · exact (H2.out.trans ((Touch.refl _ _).drewN nq)).setCell (.inl (.inr rfl)) _
      · exact (set_other _ (by omega)).trans H3.out
      · exact (set_one (w := A.drewN nq) _ H4.out).trans (by simp)
      · have := H5.out
        simp
        omega
  case done =>
    rintro D O A hD hO ⟨i1, i2, i3, i4, i5⟩ hK
    obtain ⟨b0, b1, b2⟩ := HC.out
    have c2 := one_cell ((i2.block _ (by have := HW.out.2; omega) (by omega)).trans b2)
    have c3 := one_cell i3
    have f3 := one_free i3
    have c6 := one_cell i4
    rw [List.length_range] at c6
    have hA : Hid (Sizes A) := HB.out A (hT.step i2 (fun i hi => .inr (by omega)))
    have HK := Lib.hid hK
    have H2 := Lib.hid i2
    have H3 := Lib.hid i3
    rw [List.length_range] at i5
    clear hK hIt i1 i2 i3 i4 b0 b1 b2 b3 b4 b5 b6 HC hO
    gi_wp2_with (refine ⟨trivial, rfl, ?_⟩; gi_at_call 23; refine (callsIn_wide.2 (law03_awake A hA.out)).mono ?_; rintro e w' ⟨rfl, rfl⟩)
    all_goals
      have hK' := (KeepsOthers.setCell A ⟨w.heap.size + 1 + 1 + 1, 0, none⟩ (.bool true)).same D _ HK.out rfl
      refine ⟨by simp, .inl ⟨_, _, rfl, run_takeDeferred hK', ?_⟩⟩
      have hc5 := cell_kept (one_cell (set_one (.bool true) H3.out)) (grownBy_putObj' _ D (.deferred none)) (fun r e => by cases e; exact ⟨_, hK', rfl⟩)
      refine ⟨.bool true, by simp [results, Tryd.f7, go_sem, hc5], rfl, Touch.below ?_⟩
      exact (((hT.step H2.out (fun i hi => .inr (by omega))).setCell (.inr (by simp; omega)) _).putObj (.inr (by omega)) _)
  case stop =>
    rintro D c pre O A hD hO hpre ⟨rfl, i1, i2, i3, i4, i5, i6⟩ hK
    obtain ⟨b0, b1, b2⟩ := HC.out
    have c2 := one_cell ((i2.block _ (by have := HW.out.2; omega) (by omega)).trans b2)
    have c3 := one_cell i3
    have f3 := one_free i3
    have c6 := one_cell i4
    rw [i6] at c6
    have hl := (prefix_range_len hpre).1
    have hsn : s ≤ n := by omega
    have hA : Hid (Sizes A) := HB.out A (hT.step i2 (fun i hi => .inr (by omega)))
    have HK := Lib.hid hK
    have H2 := Lib.hid i2
    have H3 := Lib.hid i3
    clear hK hIt i1 i2 i3 i4 i6 b0 b1 b2 b3 b4 b5 b6 HC hO hl hpre
    gi_wp2_with (refine ⟨trivial, rfl, ?_⟩; gi_at_call 23; refine (callsIn_wide.2 (law03_awake A hA.out)).mono ?_; rintro e w' ⟨rfl, rfl⟩)
    all_goals
      have hK' := (KeepsOthers.setCell A ⟨w.heap.size + 1 + 1 + 1, 0, none⟩ (.bool true)).same D _ HK.out rfl
      refine ⟨by simp, .inl ⟨_, _, rfl, run_takeDeferred hK', ?_⟩⟩
      have hc5 := cell_kept (one_cell (set_one (.bool true) H3.out)) (grownBy_putObj' _ D (.deferred none)) (fun r e => by cases e; exact ⟨_, hK', rfl⟩)
      refine ⟨.bool true, by simp [results, Tryd.f7, go_sem, hc5], rfl, Touch.below ?_⟩
      exact (((hT.step H2.out (fun i hi => .inr (by omega))).setCell (.inr (by simp; omega)) _).putObj (.inr (by omega)) _)
end Go.Proofs.YtmonmiadcmffgaaDoor
