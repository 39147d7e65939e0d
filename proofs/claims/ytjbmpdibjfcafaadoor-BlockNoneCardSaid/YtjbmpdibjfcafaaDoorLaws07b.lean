/- The law BlockNone, walked. Conditions: the tables of limits and of sizes read as laid. -/
import Derived.Test.YtjbmpdibjfcafaaDoorLaws07
namespace Go.Proofs.YtjbmpdibjfcafaaDoor
open Go.RowKit Go.Shelf
attribute [local go_sem] Oper.semAt_some

theorem bnil_Assign (k : Int) (w : World) : Calls Tryd.prog 33 #[.pointer none, .int .i64 k] w fun e w' => e = .returned (.tuple #[.int .i64 0, .int .i64 11]) ∧ w = w' := by
  go_enter Tryd.func33, Tryd.ntmps33
  go_wp2
  go_ret2
  exact ⟨rfl, rfl⟩
theorem bnil_Class (b : Int) (w : World) : Calls Tryd.prog 41 #[.pointer none, .int .i64 b] w fun e w' => e = .returned (.tuple #[.int .i64 0, .bool false]) ∧ w = w' := by
  go_enter Tryd.func41, Tryd.ntmps41
  go_wp2
  go_ret2
  exact ⟨rfl, rfl⟩
theorem bnil_Unassigned (w : World) : Calls Tryd.prog 36 #[.pointer none] w fun e w' => e = .returned (.slice none 0 0) ∧ w = w' := by
  have hmf := hmkf
  have h : Calls Tryd.prog 74 #[.pointer none, .func (.func 75) #[] #[]] w fun e w' => e = .returned (.slice none 0 0) ∧ w = w' := by
    go_enter Tryd.func74, Tryd.ntmps74
    go_wp2
    go_ret
    exact ⟨rfl, rfl⟩
  go_enter Tryd.func36, Tryd.ntmps36
  go_wp2_with (go_at_call 74; fail)
  refine h.mono ?_
  rintro e w' ⟨rfl, rfl⟩
  go_wp2
  go_ret
  exact ⟨rfl, rfl⟩
theorem bnil_Of (k : Int) (w : World) : Calls Tryd.prog 47 #[.pointer none, .int .i64 k] w fun e w' => e = .returned (.slice none 0 0) ∧ Touch nob w w' := by
  have hmf := hmkf
  have h : ∀ b W, Calls Tryd.prog 74 #[.pointer none, .func (.func 82) #[] #[.pointer (some ⟨b, 0, none⟩)]] W fun e w' => e = .returned (.slice none 0 0) ∧ W = w' := by
    intro b W
    go_enter Tryd.func74, Tryd.ntmps74
    go_wp2
    go_ret
    exact ⟨rfl, rfl⟩
  go_enter Tryd.func47, Tryd.ntmps47
  go_wp2_with (go_at_call 74; fail)
  refine (h _ _).mono ?_
  rintro e w' ⟨rfl, rfl⟩
  go_wp2
  go_ret
  exact ⟨rfl, by repeat (first | with_reducible exact Touch.refl _ _ | with_reducible assumption | with_reducible apply Touch.alloc | with_reducible apply Touch.drewN | with_reducible apply Touch.drew | with_reducible refine Touch.setCell ?_ (.inr (by first | omega | (simp; done) | (simp; omega))) _)⟩
theorem bnil_Slots (b : Int) (w : World) : Calls Tryd.prog 40 #[.pointer none, .int .i64 b] w fun e w' => e = .returned (.slice none 0 0) ∧ w = w' := by
  go_enter Tryd.func40, Tryd.ntmps40
  go_wp2_with (go_at_call 41; fail)
  refine (bnil_Class b w).mono ?_
  rintro e w' ⟨rfl, rfl⟩
  go_wp2
  go_ret
  exact ⟨rfl, rfl⟩
theorem no_find (k a : Int) : blkOk 0 0 0 0 0 0 0 a = false ∧ fdOk 0 0 0 0 0 0 0 k a = false := by
  have h : blkOk 0 0 0 0 0 0 0 a = false := by
    cases hh : blkOk 0 0 0 0 0 0 0 a
    · rfl
    · have := (blkOk_iff.1 hh).1
      exact absurd this (by decide)
  exact ⟨h, by unfold fdOk; rw [h]; rfl⟩
set_option maxHeartbeats 1000000 in
theorem bnil_Owner (a : Int) (w : World) (hL : Laid w) : Calls Tryd.prog 42 #[.pointer none, .int .i64 a] w fun e w' => e = .returned (.tuple #[.int .i64 0, .int .i64 0, .bool false]) ∧ Touch nob w w' := by
  have HL := Lib.hid hL
  clear hL
  go_enter Tryd.func42, Tryd.ntmps42
  go_wp2_with (go_at_call 44; fail)
  refine (blk_Config_nil w).mono ?_
  rintro e w1 ⟨rfl, hT1⟩
  go_wp2_with (go_at_call 78; fail)
  refine (addr_Block 0 0 0 0 0 0 0 a w1 (HL.out.old hT1).lim).mono ?_
  rintro e w2 ⟨rfl, hb2⟩
  have hT2 := hT1.trans (Touch.of_below hb2)
  rw [(no_find 0 a).1]
  simp only [ifB]
  clear hb2 hT1
  go_wp2_with (go_at_call 41; fail)
  refine (bnil_Class 0 w2).mono ?_
  rintro e w3 ⟨rfl, rfl⟩
  go_wp2_with (go_at_call 44; fail)
  refine (blk_Config_nil w2).mono ?_
  rintro e w3 ⟨rfl, hT3⟩
  have hT3 := hT2.trans hT3
  clear hT2
  go_wp2_with (go_at_call 79; fail)
  refine (addr_Find 0 0 0 0 0 0 0 0 a w3 (HL.out.old hT3).lim (HL.out.old hT3).siz).mono ?_
  rintro e w4 ⟨rfl, hb4⟩
  have HT4 := Lib.hid (hT3.trans (Touch.of_below hb4))
  rw [(no_find 0 a).2, show fdV 0 0 a false = PlV 0 0 0 from rfl]
  clear hb4 hT3
  go_wp2
  refine bodyPost_ret (v := .tuple #[.int .i64 0, .int .i64 0, .bool false]) (by simp [results, Tryd.results42, go_sem]) rfl ⟨rfl, by have := HT4.out; repeat (first | with_reducible exact Touch.refl _ _ | with_reducible assumption | with_reducible apply Touch.alloc | with_reducible apply Touch.drewN | with_reducible apply Touch.drew | with_reducible refine Touch.setCell ?_ (.inr (by first | omega | (simp; done) | (simp; omega))) _)⟩
theorem ball1_iter_nil {w : World} (b : Nat) (hb : w.heap[b]? = some (Obj.cells #[.pointer none] 51)) :
    Iter Tryd.prog 98 #[.pointer (some ⟨b, 0, none⟩)] (fun a : Int => #[.int .i64 a]) AbD (fun _ _ => True) [] (fun k => k = 1 ∨ k = 2) w := by
  intro l J Jx W O hTo hJ hJx hY h0 hPr hO
  have hWb := blk_touch hb hTo (fun x => x)
  refine callsIn_of_wp Tryd.func98 rfl trivial ?_ rfl
  simp only [Tryd.ntmps98, List.size_toArray, List.length_cons, List.length_nil, Nat.reduceAdd, Nat.reduceSub, Array.replicate_succ, Array.replicate_zero, List.push_toArray, List.append_toArray, List.nil_append, List.cons_append]
  obtain ⟨cb, fb⟩ := box1 hWb
  have hJ2 : ∀ (A B : World), J [] O A → Touch nob A B → J [] O B := fun A B h ht => hJ [] O A B h (ht.mono (fun _ _ x => x.elim))
  clear hb hY hPr hO hJ hJx hTo hWb
  gi_wp2_with fail
  refine wpIn_wide.2 (wp_scope_straight ((wpIn_wide (n := 0)).1 ?_))
  gi_wp2_with fail
  refine ⟨trivial, rfl, ?_⟩
  refine (callsIn_wide.2 (blk_Copy_nil W)).mono ?_
  rintro e W1 ⟨rfl, rfl⟩
  gi_wp2_with fail
  refine wpIn_label ?_
  gi_wp2_with fail
  refine ⟨trivial, rfl, ?_⟩
  refine (callsIn_wide.2 (blk_Config_nil W)).mono ?_
  rintro e W2 ⟨rfl, hT2⟩
  have h2 := Lib.hid (hJ2 _ _ h0 hT2)
  rw [show CfgV 0 0 0 0 0 0 0 = .agg #[.int .i64 0, .int .i64 0, .int .i64 0, .int .i64 0, .int .i64 0, .int .i64 0, .int .i64 0] from rfl]
  have hfl := run_cfg_blocks
  clear hT2 h0 hJ2
  gi_wp2_with fail
  gi_loopw [12] (fun iv wr => iv = .int .i64 0 ∧ wr = W2) (fun _ _ => 0)
  case atStart => exact ⟨rfl, rfl⟩
  case round =>
    obtain ⟨rfl, rfl⟩ := hrel
    gi_wp2
    rw [Exit.noGoto_normal]
    go_end0
    exact ⟨⟨_, rfl⟩, O, .inl h2.out⟩
theorem law07_list_nil {w : World} (most : Nat) (hT : Laid w) :
    Calls Tryd.prog 35 #[.pointer none, .int .i64 most] w fun e w' => ∃ v, e = .returned v ∧ Touch nob w w' ∧ IntsIn w' v [] :=
  (blist_any most none [] (Nat.zero_le _) hT (fun _ b _ hb => ball1_iter_nil b hb)).mono fun _ _ ⟨v, h1, h2, h3⟩ => ⟨v, h1, h2, by simpa using h3⟩
end Go.Proofs.YtjbmpdibjfcafaaDoor
