/- A noter and a flag; doing steps: note.New, Flag, Run, Once, Note, Pour, walked. Conditions: none beyond what each says. -/
import Derived.Test.YtnobempbcdkoaaaGreatDoorLoE
import Derived.Laws.EntriesVeiled
import Derived.Sort.LoopGhostIn
import Derived.WalkMore
namespace Go.Proofs.YtnobempbcdkoaaaGreatDoor
open Go.RowKit
attribute [local go_sem] Oper.semAt_some

variable {w w' : World}
theorem al_new {w : World} {o : Obj} {k : Nat} (h : k = w.heap.size) : (w.alloc o).heap[k]? = some o := by
  subst h
  exact World.alloc_heap_new w o
theorem al_old {w : World} {o x : Obj} {k : Nat} (h : w.heap[k]? = some x) : (w.alloc o).heap[k]? = some x := (Below.heap_alloc _ _ _ (blk_lt h)).trans h
abbrev pt (b : Nat) : Value := .pointer (some ⟨b, 0, none⟩)
/-- Steps lead from a world to one of a kind; what holds between. -/
def Does (P : Program) (I : World → Prop) (Q : World → Prop) : Nat → Value → World → Prop
  | 0, sv, w => sv = .nilFunc ∧ I w ∧ Q w
  | n + 1, sv, w => I w ∧ ∃ k cap, sv = .func (.func k) #[] cap ∧ Enters P k ∧ Calls P k cap w fun e w' => ∃ sv', e = .returned sv' ∧ Does P I Q n sv' w'
theorem Does.i {P : Program} {I Q : World → Prop} {n : Nat} {sv : Value} (h : Does P I Q n sv w) : I w := by
  cases n with
  | zero => exact h.2.1
  | succ n => exact h.1
theorem flag_Raise (f : Nat) (b : Bool) (h : w.heap[f]? = some (Obj.cells #[.bool b] 121)) :
    Calls Tryz.prog 44 #[pt f] w fun e w' => e = .returned (.tuple #[]) ∧ Touch (fun k => k = f) w w' ∧ w'.heap[f]? = some (Obj.cells #[.bool true] 121) := by
  obtain ⟨c0, f0⟩ := box1 h
  have H := Lib.hid h
  clear h
  go_enter Tryz.func44, Tryz.ntmps44
  go_wp2
  go_end0
  exact ⟨rfl, touch_set _ _ _ _, set_one _ H.out⟩
theorem flag_Raise_nil (w : World) : Calls Tryz.prog 44 #[.pointer none] w fun e w' => e = .returned (.tuple #[]) ∧ w = w' := by
  go_enter Tryz.func44, Tryz.ntmps44
  go_wp2
  go_end0
  exact ⟨rfl, rfl⟩
theorem flag_Up (f : Nat) (b : Bool) (h : w.heap[f]? = some (Obj.cells #[.bool b] 121)) :
    Calls Tryz.prog 41 #[pt f] w fun e w' => e = .returned (.bool b) ∧ w = w' := by
  obtain ⟨c0, f0⟩ := box1 h
  clear h
  go_enter Tryz.func41, Tryz.ntmps41
  go_wp2
  go_ret
  exact ⟨rfl, rfl⟩
theorem flag_Up_nil (w : World) : Calls Tryz.prog 41 #[.pointer none] w fun e w' => e = .returned (.bool false) ∧ w = w' := by
  go_enter Tryz.func41, Tryz.ntmps41
  go_wp2
  go_ret
  exact ⟨rfl, rfl⟩
theorem flag_Lower (f : Nat) (b : Bool) (h : w.heap[f]? = some (Obj.cells #[.bool b] 121)) :
    Calls Tryz.prog 45 #[pt f] w fun e w' => e = .returned (.bool b) ∧ Touch (fun k => k = f) w w' ∧ w'.heap[f]? = some (Obj.cells #[.bool false] 121) := by
  have H := Lib.hid h
  clear h
  go_enter Tryz.func45, Tryz.ntmps45
  go_wp2_with (go_at_call 41; fail)
  refine (flag_Up f b H.out).mono ?_
  rintro e w1 ⟨rfl, rfl⟩
  obtain ⟨c0, f0⟩ := box1 H.out
  cases b
  · go_wp2
    go_ret
    exact ⟨rfl, Touch.refl _ _, H.out⟩
  · go_wp2
    go_ret
    exact ⟨rfl, touch_set _ _ _ _, set_one _ H.out⟩
theorem flag_Lower_nil (w : World) : Calls Tryz.prog 45 #[.pointer none] w fun e w' => e = .returned (.bool false) ∧ w = w' := by
  go_enter Tryz.func45, Tryz.ntmps45
  go_wp2_with (go_at_call 41; fail)
  refine (flag_Up_nil w).mono ?_
  rintro e w1 ⟨rfl, rfl⟩
  go_wp2
  go_ret
  exact ⟨rfl, rfl⟩
theorem note_New_ok (h p q f : Nat) (w : World) : Calls Tryz.prog 29 #[pt h, pt p, pt q, pt f] w fun e w' => ∃ n, e = .returned (.tuple #[pt n, .int .i64 0]) ∧ w.heap.size ≤ n ∧ Touch nob w w' ∧ w'.heap[n]? = some (Obj.cells #[pt h, pt p, pt q, pt f] 124) := by
  go_enter Tryz.func29, Tryz.ntmps29
  go_wp2
  go_ret2
  exact ⟨_, rfl, Nat.le_refl _, (Touch.refl _ _).alloc _, World.alloc_heap_new _ _⟩
theorem note_New_no0 (p q f : Value) (w : World) : Calls Tryz.prog 29 #[.pointer none, p, q, f] w fun e w' => e = .returned (.tuple #[.pointer none, .int .i64 1]) ∧ w = w' := by
  go_enter Tryz.func29, Tryz.ntmps29
  go_wp2
  go_ret2
  exact ⟨rfl, rfl⟩
theorem note_New_no1 (h : Nat) (q f : Value) (w : World) : Calls Tryz.prog 29 #[pt h, .pointer none, q, f] w fun e w' => e = .returned (.tuple #[.pointer none, .int .i64 1]) ∧ w = w' := by
  go_enter Tryz.func29, Tryz.ntmps29
  go_wp2
  go_ret2
  exact ⟨rfl, rfl⟩
theorem note_New_no2 (h p : Nat) (f : Value) (w : World) : Calls Tryz.prog 29 #[pt h, pt p, .pointer none, f] w fun e w' => e = .returned (.tuple #[.pointer none, .int .i64 1]) ∧ w = w' := by
  go_enter Tryz.func29, Tryz.ntmps29
  go_wp2
  go_ret2
  exact ⟨rfl, rfl⟩
theorem note_New_no3 (h p q : Nat) (w : World) : Calls Tryz.prog 29 #[pt h, pt p, pt q, .pointer none] w fun e w' => e = .returned (.tuple #[.pointer none, .int .i64 1]) ∧ w = w' := by
  go_enter Tryz.func29, Tryz.ntmps29
  go_wp2
  go_ret2
  exact ⟨rfl, rfl⟩
set_option maxRecDepth 20000 in
theorem note_Run {I Q : World → Prop} (N : Nat) (most : Int) (sv : Value) (h : Does Tryz.prog I Q N sv w) (hN : N ≤ 1000000) :
    Calls Tryz.prog 31 #[sv, .int .i64 most] w fun e w' => ∃ k : Nat, e = .returned (.tuple #[.int .i64 k, .bool (decide (k = N))]) ∧ (k : Int) = max 0 (min (N : Int) most) ∧ I w' ∧ (k = N → Q w') := by
  have H := Lib.hid h
  clear h
  refine (callsIn_wide (n := 0)).1 (callsIn_of_wp_marks Tryz.func31 rfl trivial ?_ rfl)
  simp only [Tryz.ntmps31, List.size_toArray, List.length_cons, List.length_nil, Nat.reduceAdd, Nat.reduceSub, Array.replicate_succ, Array.replicate_zero, List.push_toArray, List.append_toArray, List.nil_append, List.cons_append]
  have hq1 : ∀ (f : Nat) (caps : Array Value) (w : World), (binOp .neq 67 (.func (.func f) #[] caps) .nilFunc).run Tryz.prog w = .ok (.bool true) w := fun _ _ _ => rfl
  have hq2 : ∀ (f : Nat) (caps : Array Value) (w : World), (binOp .eql 67 (.func (.func f) #[] caps) .nilFunc).run Tryz.prog w = .ok (.bool false) w := fun _ _ _ => rfl
  have hq3 : ∀ (w : World), (binOp .neq 67 .nilFunc .nilFunc).run Tryz.prog w = .ok (.bool false) w := fun _ => rfl
  have hq4 : ∀ (w : World), (binOp .eql 67 .nilFunc .nilFunc).run Tryz.prog w = .ok (.bool true) w := fun _ => rfl
  gi_wp2_with fail
  refine wpIn_wide.2 (wp_scope_straight ((wpIn_wide (n := 0)).1 ?_))
  gi_wp2_with fail
  refine wpIn_label ?_
  gi_wp2_with fail
  gi_loopg [0, 6] N (fun g sv nv wr => ∃ k : Nat, nv = .int .i64 k ∧ k ≤ N ∧ N - k ≤ g ∧ Hid ((k = 0 ∨ (k : Int) ≤ most) ∧ Does Tryz.prog I Q (N - k) sv wr))
  case atStart => exact ⟨0, rfl, Nat.zero_le _, by omega, .inl rfl, by simpa using H.out⟩
  case round =>
    obtain ⟨k, rfl, hk, hg, HI⟩ := hrel
    clear H
    obtain ⟨d, hd⟩ : ∃ d, N - k = d := ⟨_, rfl⟩
    cases d with
    | zero =>
      have hI := HI.out.2
      rw [hd] at hI
      obtain ⟨h1, h2, h3⟩ := hI
      have HE := Lib.hid (And.intro h2 (And.intro h3 (And.intro HI.out.1 hd)))
      clear HI h2 h3 hd
      subst h1
      gi_wp2
      rw [Exit.noGoto_ret]
      have hkN : k = N := by have := HE.out.2.2.2; omega
      refine ⟨.tuple #[.int .i64 k, .bool true], by simp [results, Tryz.f31, go_sem], k, by rw [decide_eq_true hkN], ?_, HE.out.1, fun _ => HE.out.2.1⟩
      have h1 := HE.out.2.2.1
      omega
    | succ d =>
      have hI := HI.out.2
      rw [hd] at hI
      obtain ⟨h1, f, caps, h2, he, hc⟩ := hI
      subst h2
      by_cases hm : most ≤ (k : Int)
      · have HE := Lib.hid (And.intro h1 (And.intro HI.out.1 hd))
        clear HI h1 he hc hd
        gi_wp2
        rw [Exit.noGoto_ret]
        have hkN : k ≠ N := by have := HE.out.2.2; omega
        refine ⟨.tuple #[.int .i64 k, .bool false], by simp [results, Tryz.f31, go_sem], k, by rw [decide_eq_false hkN], ?_, HE.out.1, fun e => absurd e hkN⟩
        have h1 := HE.out.2.1
        omega
      · have HC := Lib.hid (And.intro hc (And.intro hd hm))
        have hk' : ∀ (args : Array Value) (w : World), (callFunc f args).run Tryz.prog w = .ok (.enter f args) w := he
        clear HI h1 he hc hd
        gi_wp2_with fail
        refine ⟨trivial, rfl, ?_⟩
        refine (callsIn_wide.2 HC.out.1).mono ?_
        rintro e w2 ⟨sv', rfl, hD⟩
        have HD : Hid ((k + 1 = 0 ∨ ((k + 1 : Nat) : Int) ≤ most) ∧ Does Tryz.prog I Q (N - (k + 1)) sv' w2) := by
          have h1 := HC.out.2.1
          have h2 := HC.out.2.2
          refine ⟨.inr (by omega), ?_⟩
          rw [show N - (k + 1) = d by omega]
          exact hD
        have hkN : k + 1 ≤ N := by have h1 := HC.out.2.1; omega
        clear hD
        gi_wp2
        gi_roundg (N - (k + 1))
        case measure => omega
        case rel => exact ⟨k + 1, by go_num, hkN, Nat.le_refl _, HD⟩
/-- A step. -/
def SV (tv : Value) : Prop := tv = .nilFunc ∨ ∃ k cap, tv = .func (.func k) #[] cap
abbrev NtB (w : World) (n h p q f : Nat) : Prop := w.heap[n]? = some (Obj.cells #[pt h, pt p, pt q, pt f] 124)
abbrev BxN (w : World) (b n : Nat) : Prop := w.heap[b]? = some (Obj.cells #[pt n] 61)
abbrev BxI (w : World) (b : Nat) (v : Int) : Prop := w.heap[b]? = some (Obj.cells #[.int .i64 v] 3)
abbrev BxB (w : World) (b : Nat) (v : Bool) : Prop := w.heap[b]? = some (Obj.cells #[.bool v] 4)
abbrev BxS (w : World) (b : Nat) (tv : Value) : Prop := w.heap[b]? = some (Obj.cells #[tv] 67)
abbrev BxA (w : World) (b : Nat) (tv : Value) : Prop := w.heap[b]? = some (Obj.cells #[tv] 66)
abbrev BxF (w : World) (b : Nat) (dv : Value) : Prop := w.heap[b]? = some (Obj.cells #[dv] 1)
set_option maxRecDepth 20000 in
theorem note_Once (dv : Value) (hd : SV dv) (w : World) : Calls Tryz.prog 38 #[dv] w fun e w' => ∃ b, e = .returned (.func (.func 71) #[] #[pt b]) ∧ w.heap.size ≤ b ∧ Touch nob w w' ∧ BxF w' b dv := by
  have hmf := hmkf
  rcases hd with rfl | ⟨k, cap, rfl⟩
  all_goals
    go_enter Tryz.func38, Tryz.ntmps38
    go_wp2
    go_ret
    exact ⟨_, rfl, Nat.le_refl _, (by (repeat (first | with_reducible exact Touch.refl _ _ | with_reducible assumption | with_reducible apply Touch.alloc | with_reducible apply Touch.drewN | with_reducible apply Touch.drew | with_reducible refine Touch.setCell ?_ (.inr (by first | omega | (simp; done) | (simp; omega))) _))), World.alloc_heap_new _ _⟩
set_option maxRecDepth 20000 in
theorem once1_nil (b : Nat) (hb : BxF w b .nilFunc) : Calls Tryz.prog 71 #[pt b] w fun e w' => e = .returned .nilFunc ∧ w = w' := by
  obtain ⟨c0, -⟩ := box1 hb
  have hq : ∀ (w : World), (binOp .neq 1 .nilFunc .nilFunc).run Tryz.prog w = .ok (.bool false) w := fun _ => rfl
  go_enter Tryz.func71, Tryz.ntmps71
  go_wp2
  go_ret
  exact ⟨rfl, rfl⟩
set_option maxRecDepth 20000 in
theorem once1 (b k : Nat) (cap : Array Value) (R : World → Prop) (hb : BxF w b (.func (.func k) #[] cap)) (he : Enters Tryz.prog k) (hc : Calls Tryz.prog k cap w fun e w' => e = .returned (.tuple #[]) ∧ R w') : Calls Tryz.prog 71 #[pt b] w fun e w' => e = .returned .nilFunc ∧ R w' := by
  obtain ⟨c0, -⟩ := box1 hb
  have hk' : ∀ (args : Array Value) (w : World), (callFunc k args).run Tryz.prog w = .ok (.enter k args) w := he
  have HC := Lib.hid hc
  have hq : ∀ (f : Nat) (caps : Array Value) (w : World), (binOp .neq 1 (.func (.func f) #[] caps) .nilFunc).run Tryz.prog w = .ok (.bool true) w := fun _ _ _ => rfl
  clear hb hc
  go_enter Tryz.func71, Tryz.ntmps71
  go_wp2_with (go_at_fn k; fail)
  refine HC.out.mono ?_
  rintro e w1 ⟨rfl, h1⟩
  have H1 := Lib.hid h1
  clear h1
  go_wp2
  go_ret
  exact ⟨rfl, H1.out⟩
theorem note_Note_nil (v col : Int) (tv : Value) (ht : SV tv) (w : World) : Calls Tryz.prog 32 #[.pointer none, .int .i64 v, .int .i64 col, tv] w fun e w' => e = .returned tv ∧ Touch nob w w' := by
  have hmf := hmkf
  rcases ht with rfl | ⟨k, cap, rfl⟩
  all_goals
    go_enter Tryz.func32, Tryz.ntmps32
    go_wp2
    go_ret
    exact ⟨rfl, by (repeat (first | with_reducible exact Touch.refl _ _ | with_reducible assumption | with_reducible apply Touch.alloc | with_reducible apply Touch.drewN | with_reducible apply Touch.drew | with_reducible refine Touch.setCell ?_ (.inr (by first | omega | (simp; done) | (simp; omega))) _))⟩
theorem note_Note_zero (n : Nat) (col : Int) (tv : Value) (ht : SV tv) (w : World) : Calls Tryz.prog 32 #[pt n, .int .i64 0, .int .i64 col, tv] w fun e w' => e = .returned tv ∧ Touch nob w w' := by
  have hmf := hmkf
  rcases ht with rfl | ⟨k, cap, rfl⟩
  all_goals
    go_enter Tryz.func32, Tryz.ntmps32
    go_wp2
    go_ret
    exact ⟨rfl, by (repeat (first | with_reducible exact Touch.refl _ _ | with_reducible assumption | with_reducible apply Touch.alloc | with_reducible apply Touch.drewN | with_reducible apply Touch.drew | with_reducible refine Touch.setCell ?_ (.inr (by first | omega | (simp; done) | (simp; omega))) _))⟩
theorem note_Note (n : Nat) (v col : Int) (tv : Value) (ht : SV tv) (hv : (v == 0) = false) (w : World) : Calls Tryz.prog 32 #[pt n, .int .i64 v, .int .i64 col, tv] w fun e w' => ∃ b, e = .returned (.func (.func 67) #[] #[pt b, pt (b + 1), pt (b + 1 + 1), pt (b + 1 + 1 + 1), pt (b + 1 + 1 + 1 + 1)]) ∧ Touch nob w w' ∧ w.heap.size ≤ b ∧
    BxN w' b n ∧ BxI w' (b + 1) v ∧ BxI w' (b + 1 + 1) col ∧ BxS w' (b + 1 + 1 + 1) tv ∧ BxA w' (b + 1 + 1 + 1 + 1) (.func (.func 66) #[] #[pt b, pt (b + 1), pt (b + 1 + 1 + 1)]) := by
  have hmf := hmkf
  rcases ht with rfl | ⟨k, cap, rfl⟩
  all_goals
    go_enter Tryz.func32, Tryz.ntmps32
    go_wp2
    go_ret
    exact ⟨w.heap.size, rfl, (by (repeat (first | with_reducible exact Touch.refl _ _ | with_reducible assumption | with_reducible apply Touch.alloc | with_reducible apply Touch.drewN | with_reducible apply Touch.drew | with_reducible refine Touch.setCell ?_ (.inr (by first | omega | (simp; done) | (simp; omega))) _))), Nat.le_refl _, (by repeat (first | exact al_new rfl | exact al_new (by simp) | refine al_old ?_)), (by repeat (first | exact al_new rfl | exact al_new (by simp) | refine al_old ?_)), (by repeat (first | exact al_new rfl | exact al_new (by simp) | refine al_old ?_)), (by repeat (first | exact al_new rfl | exact al_new (by simp) | refine al_old ?_)), (by repeat (first | exact al_new rfl | exact al_new (by simp) | refine al_old ?_))⟩
theorem note_Pour_nil (col : Int) (tv : Value) (ht : SV tv) (w : World) : Calls Tryz.prog 43 #[.pointer none, .int .i64 col, tv] w fun e w' => e = .returned tv ∧ Touch nob w w' := by
  have hmf := hmkf
  rcases ht with rfl | ⟨k, cap, rfl⟩
  all_goals
    go_enter Tryz.func43, Tryz.ntmps43
    go_wp2
    go_ret
    exact ⟨rfl, by (repeat (first | with_reducible exact Touch.refl _ _ | with_reducible assumption | with_reducible apply Touch.alloc | with_reducible apply Touch.drewN | with_reducible apply Touch.drew | with_reducible refine Touch.setCell ?_ (.inr (by first | omega | (simp; done) | (simp; omega))) _))⟩
variable {n h p q f : Nat} {room : Int} {u : Value} {xs : List Int}
theorem note_Pour_z  (col : Int) (hn : NtB w n h p q f) (hb : BufAt w p room u xs) : Calls Tryz.prog 43 #[pt n, .int .i64 col, .nilFunc] w fun e w' => Touch nob w w' ∧ ((xs = [] ∧ e = .returned .nilFunc) ∨ (xs ≠ [] ∧ ∃ b, e = .returned (.func (.func 72) #[] #[pt b, pt (b + 1 + 1), pt (b + 1)]) ∧ w.heap.size ≤ b ∧
    BxN w' b n ∧ BxI w' (b + 1) col ∧ BxS w' (b + 1 + 1) .nilFunc)) := by
  have hmf := hmkf
  obtain ⟨W0, hW0⟩ : ∃ W0, W0 = ((w.alloc (Obj.cells #[pt n] 61)).alloc (Obj.cells #[.int .i64 col] 3)).alloc (Obj.cells #[.nilFunc] 67) := ⟨_, rfl⟩
  have t0 : Touch nob w W0 := by rw [hW0]; (repeat (first | with_reducible exact Touch.refl _ _ | with_reducible assumption | with_reducible apply Touch.alloc | with_reducible apply Touch.drewN | with_reducible apply Touch.drew | with_reducible refine Touch.setCell ?_ (.inr (by first | omega | (simp; done) | (simp; omega))) _))
  have b0 : BxN W0 w.heap.size n ∧ BxI W0 (w.heap.size + 1) col ∧ BxS W0 (w.heap.size + 1 + 1) .nilFunc := by rw [hW0]; exact ⟨(by repeat (first | exact al_new rfl | exact al_new (by simp) | refine al_old ?_)), (by repeat (first | exact al_new rfl | exact al_new (by simp) | refine al_old ?_)), (by repeat (first | exact al_new rfl | exact al_new (by simp) | refine al_old ?_))⟩
  obtain ⟨c0, -⟩ := box1 b0.1
  have hc1 : W0.cell? ⟨n, 1, none⟩ = some (pt p) := by have := blk_touch hn t0 (fun x => x); simp [World.cell?, this]
  obtain ⟨cT, -⟩ := box1 b0.2.2
  have hbl := buf_Len (hb.old t0)
  have H0 := Lib.hid (And.intro t0 (And.intro b0 hbl))
  rw [hW0] at c0 hc1 cT
  clear hn hb t0 b0 hbl
  cases xs with
  | nil =>
    go_enter Tryz.func43, Tryz.ntmps43
    go_wp2_with (go_at_call 33; fail)
    rw [← hW0]
    rw [← hW0] at c0 hc1 cT
    clear hW0
    refine H0.out.2.2.mono ?_
    rintro e w1 ⟨rfl, rfl⟩
    rw [List.length_nil]
    go_wp2
    go_ret
    exact ⟨H0.out.1, .inl ⟨by first | rfl | trivial, rfl⟩⟩
  | cons x xs =>
    obtain ⟨m, hm⟩ : ∃ m, (x :: xs).length = m := ⟨_, rfl⟩
    have hm0 : ((m : Int) == 0) = false := by rw [← hm]; simp; omega
    rw [hm] at H0
    clear hm
    go_enter Tryz.func43, Tryz.ntmps43
    go_wp2_with (go_at_call 33; fail)
    rw [← hW0]
    rw [← hW0] at c0 hc1 cT
    clear hW0
    refine H0.out.2.2.mono ?_
    rintro e w1 ⟨rfl, rfl⟩
    go_wp2
    go_ret
    exact ⟨H0.out.1, .inr ⟨by simp, w.heap.size, rfl, Nat.le_refl _, H0.out.2.1.1, H0.out.2.1.2.1, H0.out.2.1.2.2⟩⟩
theorem note_Pour_f (k : Nat) (cap : Array Value) (col : Int) (hn : NtB w n h p q f) (hb : BufAt w p room u xs) : Calls Tryz.prog 43 #[pt n, .int .i64 col, (.func (.func k) #[] cap)] w fun e w' => Touch nob w w' ∧ ((xs = [] ∧ e = .returned (.func (.func k) #[] cap)) ∨ (xs ≠ [] ∧ ∃ b, e = .returned (.func (.func 72) #[] #[pt b, pt (b + 1 + 1), pt (b + 1)]) ∧ w.heap.size ≤ b ∧
    BxN w' b n ∧ BxI w' (b + 1) col ∧ BxS w' (b + 1 + 1) (.func (.func k) #[] cap))) := by
  have hmf := hmkf
  obtain ⟨W0, hW0⟩ : ∃ W0, W0 = ((w.alloc (Obj.cells #[pt n] 61)).alloc (Obj.cells #[.int .i64 col] 3)).alloc (Obj.cells #[(.func (.func k) #[] cap)] 67) := ⟨_, rfl⟩
  have t0 : Touch nob w W0 := by rw [hW0]; (repeat (first | with_reducible exact Touch.refl _ _ | with_reducible assumption | with_reducible apply Touch.alloc | with_reducible apply Touch.drewN | with_reducible apply Touch.drew | with_reducible refine Touch.setCell ?_ (.inr (by first | omega | (simp; done) | (simp; omega))) _))
  have b0 : BxN W0 w.heap.size n ∧ BxI W0 (w.heap.size + 1) col ∧ BxS W0 (w.heap.size + 1 + 1) (.func (.func k) #[] cap) := by rw [hW0]; exact ⟨(by repeat (first | exact al_new rfl | exact al_new (by simp) | refine al_old ?_)), (by repeat (first | exact al_new rfl | exact al_new (by simp) | refine al_old ?_)), (by repeat (first | exact al_new rfl | exact al_new (by simp) | refine al_old ?_))⟩
  obtain ⟨c0, -⟩ := box1 b0.1
  have hc1 : W0.cell? ⟨n, 1, none⟩ = some (pt p) := by have := blk_touch hn t0 (fun x => x); simp [World.cell?, this]
  obtain ⟨cT, -⟩ := box1 b0.2.2
  have hbl := buf_Len (hb.old t0)
  have H0 := Lib.hid (And.intro t0 (And.intro b0 hbl))
  rw [hW0] at c0 hc1 cT
  clear hn hb t0 b0 hbl
  cases xs with
  | nil =>
    go_enter Tryz.func43, Tryz.ntmps43
    go_wp2_with (go_at_call 33; fail)
    rw [← hW0]
    rw [← hW0] at c0 hc1 cT
    clear hW0
    refine H0.out.2.2.mono ?_
    rintro e w1 ⟨rfl, rfl⟩
    rw [List.length_nil]
    go_wp2
    go_ret
    exact ⟨H0.out.1, .inl ⟨by first | rfl | trivial, rfl⟩⟩
  | cons x xs =>
    obtain ⟨m, hm⟩ : ∃ m, (x :: xs).length = m := ⟨_, rfl⟩
    have hm0 : ((m : Int) == 0) = false := by rw [← hm]; simp; omega
    rw [hm] at H0
    clear hm
    go_enter Tryz.func43, Tryz.ntmps43
    go_wp2_with (go_at_call 33; fail)
    rw [← hW0]
    rw [← hW0] at c0 hc1 cT
    clear hW0
    refine H0.out.2.2.mono ?_
    rintro e w1 ⟨rfl, rfl⟩
    go_wp2
    go_ret
    exact ⟨H0.out.1, .inr ⟨by simp, w.heap.size, rfl, Nat.le_refl _, H0.out.2.1.1, H0.out.2.1.2.1, H0.out.2.1.2.2⟩⟩
theorem note_Pour (col : Int) (tv : Value) (ht : SV tv) (hn : NtB w n h p q f) (hb : BufAt w p room u xs) : Calls Tryz.prog 43 #[pt n, .int .i64 col, tv] w fun e w' => Touch nob w w' ∧ ((xs = [] ∧ e = .returned tv) ∨ (xs ≠ [] ∧ ∃ b, e = .returned (.func (.func 72) #[] #[pt b, pt (b + 1 + 1), pt (b + 1)]) ∧ w.heap.size ≤ b ∧
    BxN w' b n ∧ BxI w' (b + 1) col ∧ BxS w' (b + 1 + 1) tv)) := by
  rcases ht with rfl | ⟨k, cap, rfl⟩
  · exact note_Pour_z col hn hb
  · exact note_Pour_f k cap col hn hb
theorem note_paint (n : Nat) (col : Int) (fr : Bool) (tv : Value) (ht : SV tv) (w : World) : Calls Tryz.prog 73 #[pt n, .int .i64 col, .bool fr, tv] w fun e w' => ∃ b, e = .returned (.func (.func 111) #[] #[pt b, pt (b + 1), pt (b + 1 + 1), pt (b + 1 + 1 + 1)]) ∧ Touch nob w w' ∧ w.heap.size ≤ b ∧ BxN w' b n ∧ BxI w' (b + 1) col ∧ BxB w' (b + 1 + 1) fr ∧ BxS w' (b + 1 + 1 + 1) tv := by
  have hmf := hmkf
  rcases ht with rfl | ⟨k, cap, rfl⟩
  all_goals
    go_enter Tryz.func73, Tryz.ntmps73
    go_wp2
    go_ret
    exact ⟨w.heap.size, rfl, (by (repeat (first | with_reducible exact Touch.refl _ _ | with_reducible assumption | with_reducible apply Touch.alloc | with_reducible apply Touch.drewN | with_reducible apply Touch.drew | with_reducible refine Touch.setCell ?_ (.inr (by first | omega | (simp; done) | (simp; omega))) _))), Nat.le_refl _, (by repeat (first | exact al_new rfl | exact al_new (by simp) | refine al_old ?_)), (by repeat (first | exact al_new rfl | exact al_new (by simp) | refine al_old ?_)), (by repeat (first | exact al_new rfl | exact al_new (by simp) | refine al_old ?_)), (by repeat (first | exact al_new rfl | exact al_new (by simp) | refine al_old ?_))⟩
end Go.Proofs.YtnobempbcdkoaaaGreatDoor
