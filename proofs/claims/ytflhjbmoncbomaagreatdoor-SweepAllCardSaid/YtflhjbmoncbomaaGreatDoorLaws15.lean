/- The sweep's law's example, and what is told without a heap, walked. Conditions: the tables of limits and of sizes read as laid. -/
import Derived.Test.YtflhjbmoncbomaaGreatDoorSw1
import Derived.Test.YtflhjbmoncbomaaGreatDoorMd
import Derived.Test.YtflhjbmoncbomaaGreatDoorInts
namespace Go.Proofs.YtflhjbmoncbomaaGreatDoor
open Go.RowKit

def awakeC15 : Cf := ⟨1, 16, 1, 1, 0, 1, 1⟩
def awakeT15 : List (Int × Int × Bool) := [(1, 0, false), (1, 1, false)]
def awakeP15 : HS × (Nat → List Nat) := mdF awakeC15 1 awakeT15 (newS0 16 0, fun _ => [])
theorem awake15_L : swL awakeC15 1 (allSl awakeC15 awakeP15.1.s.ks awakeP15.1.s.ks.length) awakeP15 = [1] := by decide +kernel
set_option maxRecDepth 10000 in
theorem law15_awake (w : World) (hL : Laid w) : Calls Tryz.prog 32 #[] w fun e w' => e = .returned (.bool true) ∧ Touch nob w w' := by
  have HL := Lib.hid hL
  clear hL
  obtain ⟨W, hW⟩ : ∃ W, W = w.alloc (Obj.cells #[.int .u8 1, .int .u8 0, .bool false, .int .u8 1, .int .u8 1, .bool false] 120) := ⟨_, rfl⟩
  have hT : Touch nob w W := by rw [hW]; (repeat (first | with_reducible exact Touch.refl _ _ | with_reducible assumption | with_reducible apply Touch.alloc | with_reducible apply Touch.drewN | with_reducible apply Touch.drew | with_reducible refine Touch.setCell ?_ (.inr (by first | omega | (simp; done) | (simp; omega))) _))
  have hb : W.heap[w.heap.size]? = some (Obj.cells #[.int .u8 1, .int .u8 0, .bool false, .int .u8 1, .int .u8 1, .bool false] 120) := by rw [hW]; exact World.alloc_heap_new w _
  have hth : ThIn W (.slice (some ⟨w.heap.size, 0, none⟩) 2 2) awakeT15 := by
    refine ⟨_, _, rfl, .inr ⟨w.heap.size, 0, rfl, Nat.le_refl _, fun k t hk => ?_⟩⟩
    have key : ∀ j, W.cell? ⟨w.heap.size, j, none⟩ = #[Value.int .u8 1, .int .u8 0, .bool false, .int .u8 1, .int .u8 1, .bool false][j]? := fun j => by simp [World.cell?, hb]
    rw [key, key, key]
    rcases k with _ | _ | k
    · cases hk
      exact ⟨by decide, rfl, rfl, rfl⟩
    · cases hk
      exact ⟨by decide, rfl, rfl, rfl⟩
    · simp [awakeT15] at hk
  have HB := Lib.hid (And.intro hT hth)
  clear hT hb hth
  go_enter Tryz.func32, Tryz.ntmps32
  go_wp2_with (go_at_call 51; fail)
  rw [← hW]
  obtain ⟨b0, hb0⟩ : ∃ b, b = w.heap.size := ⟨_, rfl⟩
  rw [← hb0] at HB ⊢
  clear hW hb0
  refine (law15_Made awakeC15 _ awakeT15 16 0 (by decide) (by decide) (by decide) (by decide) (by decide) W (HL.out.old HB.out.1) HB.out.2).mono ?_
  rintro e w1 ⟨W1, t1, A, m, rfl, hn, qx, O, h2, -⟩
  have hn1 : A.L.n = 1 := by have : (A.L.n : Int) = 1 := hn; omega
  rw [hn1] at h2
  have hp : HpI W1 w1 A awakeC15 awakeP15.1 awakeP15.2 := h2.hp
  have H1 := Lib.hid (And.intro t1 hp)
  clear t1 h2 hn hn1 hp
  go_wp2_with (go_at_call 27; fail)
  refine (sw_All awakeP15 1 H1.out.2 (.inr rfl)).mono ?_
  rintro e w2 ⟨v2, rfl, al⟩
  have how := al.ow
  rw [awake15_L] at how
  have H2 := Lib.hid (And.intro ((HB.out.1.trans H1.out.1).trans al.hp.at'.base) how)
  clear al how
  go_wp2_with (go_at_call 52; fail)
  have hr : ∀ w3 b, w3.heap[b]? = some (Obj.cells #[.int .i64 1] 3) → IntsIn w3 (.slice (some ⟨b, 0, none⟩) 1 1) [1] := fun w3 b hb => ⟨_, _, rfl, .inr ⟨b, 0, rfl, Nat.le_refl _, fun j hj => by
    obtain rfl : j = 0 := by simp at hj; omega
    simp [World.cell?, hb]⟩⟩
  refine (ref01_Same _ _ [1] _ (H2.out.2.ints.old (Touch.alloc (Touch.refl _ _) _)) (hr _ _ (World.alloc_heap_new _ _)) (by decide)).mono ?_
  rintro e w3 ⟨rfl, t3⟩
  have H3 := Lib.hid ((H2.out.1.alloc _).trans t3)
  clear t3 hr
  go_wp2
  go_ret
  exact ⟨rfl, H3.out⟩
theorem sw_nil_New (b col : Int) (w : World) : Calls Tryz.prog 25 #[.pointer none, .int .i64 b, .int .i64 col] w fun e w' => e = .returned (.tuple #[.pointer none, .int .i64 11]) ∧ w = w' := by
  go_enter Tryz.func25, Tryz.ntmps25
  go_wp2
  go_ret2
  exact ⟨rfl, rfl⟩
theorem sw_nil_Block (b col : Int) (w : World) : Calls Tryz.prog 26 #[.pointer none, .int .i64 b, .int .i64 col] w fun e w' => e = .returned (.tuple #[.slice none 0 0, .int .i64 11]) ∧ w = w' := by
  go_enter Tryz.func26, Tryz.ntmps26
  go_wp2_with (go_at_call 25; fail)
  refine (sw_nil_New b col w).mono ?_
  rintro e w1 ⟨rfl, rfl⟩
  go_wp2
  go_ret2
  exact ⟨rfl, rfl⟩
theorem sw_nil_All (col : Int) (w : World) : Calls Tryz.prog 27 #[.pointer none, .int .i64 col] w fun e w' => e = .returned (.tuple #[.slice none 0 0, .int .i64 11]) ∧ w = w' := by
  go_enter Tryz.func27, Tryz.ntmps27
  go_wp2_with fail
  go_step3
  go_wp2_with fail
  rw [Exit.noGoto_ret]
  go_ret2
  exact ⟨rfl, rfl⟩
theorem sw_nil_Left (w : World) : Calls Tryz.prog 30 #[.pointer none] w fun e w' => e = .returned (.int .i64 0) ∧ w = w' := by
  go_enter Tryz.func30, Tryz.ntmps30
  go_wp2
  go_ret
  exact ⟨rfl, rfl⟩
theorem sw_nil_CBlock (w : World) : Calls Tryz.prog 31 #[.pointer none] w fun e w' => e = .returned (.int .i64 0) ∧ w = w' := by
  go_enter Tryz.func31, Tryz.ntmps31
  go_wp2
  go_ret
  exact ⟨rfl, rfl⟩
theorem sw_nil_Done (w : World) : Calls Tryz.prog 29 #[.pointer none] w fun e w' => e = .returned (.bool true) ∧ w = w' := by
  go_enter Tryz.func29, Tryz.ntmps29
  go_wp2_with (go_at_call 30; fail)
  refine (sw_nil_Left w).mono ?_
  rintro e w1 ⟨rfl, rfl⟩
  go_wp2
  go_ret
  exact ⟨rfl, rfl⟩
theorem sw_nil_Step (w : World) : Calls Tryz.prog 28 #[.pointer none] w fun e w' => e = .returned (.tuple #[.int .i64 0, .bool false]) ∧ w = w' := by
  go_enter Tryz.func28, Tryz.ntmps28
  go_wp2_with (go_at_call 29; fail)
  refine (sw_nil_Done w).mono ?_
  rintro e w1 ⟨rfl, rfl⟩
  go_wp2
  go_ret2
  exact ⟨rfl, rfl⟩
theorem law_SweepNone (b : Int) (_ : (Lit.int .i64 b).wf = true) (col : Int) (_ : (Lit.int .i64 col).wf = true) (w : World) (hLim : Limits w) (hS : Sizes w) :
    Calls Tryz.prog 4 #[.int .i64 b, .int .i64 col] w fun e w' => e = .returned (.bool true) ∧ Below w.heap.size w w' := by
  have HL := Lib.hid (Laid.mk hLim hS)
  clear hLim hS
  go_enter Tryz.func4, Tryz.ntmps4
  go_wp2_with (go_at_call 25; fail)
  refine (sw_nil_New b col w).mono ?_
  rintro e w1 ⟨rfl, rfl⟩
  go_wp2_with (go_at_call 26; fail)
  refine (sw_nil_Block b col w).mono ?_
  rintro e w1 ⟨rfl, rfl⟩
  go_wp2_with (go_at_call 27; fail)
  refine (sw_nil_All col w).mono ?_
  rintro e w1 ⟨rfl, rfl⟩
  go_wp2_with (go_at_call 28; fail)
  refine (sw_nil_Step w).mono ?_
  rintro e w1 ⟨rfl, rfl⟩
  go_wp2_with (go_at_call 29; fail)
  refine (sw_nil_Done w).mono ?_
  rintro e w1 ⟨rfl, rfl⟩
  go_wp2_with (go_at_call 30; fail)
  refine (sw_nil_Left w).mono ?_
  rintro e w1 ⟨rfl, rfl⟩
  go_wp2_with (go_at_call 31; fail)
  refine (sw_nil_CBlock w).mono ?_
  rintro e w1 ⟨rfl, rfl⟩
  go_wp2_with (go_at_call 32; fail)
  refine (law15_awake w HL.out).mono ?_
  rintro e w1 ⟨rfl, t1⟩
  have HE := Lib.hid t1.below
  clear t1
  go_wp2
  go_ret
  exact ⟨rfl, HE.out⟩
end Go.Proofs.YtflhjbmoncbomaaGreatDoor
