/- The config functions, walked. Conditions: the table of limits reads as laid. -/
import Derived.Test.YtflhjbmoncbomaaGreatDoorRep
import Derived.Test.YtflhjbmoncbomaaGreatDoorClass
import Derived.BigRegion
import Derived.Lib.QuietBelow
import Derived.BigQuiet
import Derived.ChangeAlike
namespace Go.Proofs.YtflhjbmoncbomaaGreatDoor
open Go.RowKit Go.Sort

theorem gLimits : Tryz.prog.globalNamed "dustpan/config.limits" = some 0 := by kernel_rfl
theorem tLimits : (Tryz.prog.globals[0]?).map (·.type) = some 178 := by kernel_rfl
/-- The table of limits reads as laid. -/
def Limits (w : World) : Prop := ∀ i, w.cell? ⟨0, i, none⟩ = [Value.int .i64 1, .int .i64 4096, .int .i64 16, .int .i64 256, .int .i64 1, .int .i64 8, .int .i64 1, .int .i64 64, .int .i64 0, .int .i64 64, .int .i64 1, .int .i64 256, .int .i64 1, .int .i64 4096][i]?
theorem limits_of_cells {w : World} (h : ∀ i, w.cell? ⟨0, i, none⟩ = [Value.int .i64 1, .int .i64 4096, .int .i64 16, .int .i64 256, .int .i64 1, .int .i64 8, .int .i64 1, .int .i64 64, .int .i64 0, .int .i64 64, .int .i64 1, .int .i64 256, .int .i64 1, .int .i64 4096][i]?) : Limits w := h
theorem Limits.lt {w : World} (h : Limits w) : 0 < w.heap.size := block_lt_of_cell (h 0)
theorem Limits.touch {S : Nat → Prop} {w w' : World} (h : Limits w) (ht : Touch S w w') (hs : ¬ S 0) : Limits w' := fun i => (ht.cell h.lt hs).trans (h i)

set_option maxHeartbeats 800000 in
theorem config_numbers (b : Nat) (w : World) :
    Calls Tryz.prog 150 #[.pointer (some ⟨b, 0, none⟩)] w fun e w' => e = .returned (.agg #[.pointer (some ⟨b, 0, none⟩), .pointer (some ⟨b, 1, none⟩), .pointer (some ⟨b, 2, none⟩), .pointer (some ⟨b, 3, none⟩), .pointer (some ⟨b, 4, none⟩), .pointer (some ⟨b, 5, none⟩), .pointer (some ⟨b, 6, none⟩)]) ∧ Below w.heap.size w w' := by
  go_enter Tryz.func150, Tryz.ntmps150
  go_wp2
  go_region
  go_wp2
  refine bodyPost_ret (v := .agg #[.pointer (some ⟨b, 0, none⟩), .pointer (some ⟨b, 1, none⟩), .pointer (some ⟨b, 2, none⟩), .pointer (some ⟨b, 3, none⟩), .pointer (some ⟨b, 4, none⟩), .pointer (some ⟨b, 5, none⟩), .pointer (some ⟨b, 6, none⟩)]) (by simp [results, Tryz.results150, go_sem]) rfl ⟨rfl, ?_⟩
  exact (((Touch.refl nob w).alloc _).drew).below

def clampI (lo hi n : Int) : Int := max lo (min hi n)
theorem clampI_id {lo hi n : Int} (h : lo ≤ n) (h' : n ≤ hi) : clampI lo hi n = n := by unfold clampI; omega
theorem clampI_bd (lo hi n : Int) (h : lo ≤ hi) : lo ≤ clampI lo hi n ∧ clampI lo hi n ≤ hi := by unfold clampI; omega
theorem clampI_iff {lo hi n : Int} (h : lo ≤ hi) : clampI lo hi n = n ↔ (lo ≤ n ∧ n ≤ hi) := by unfold clampI; omega

/-- The cells of the config's box behind i rounds. -/
def clampRow (c0 c1 c2 c3 c4 c5 c6 : Int) (i : Nat) : Array Value :=
  #[.int .i64 (if 0 < i then clampI 1 4096 c0 else c0), .int .i64 (if 1 < i then clampI 16 256 c1 else c1), .int .i64 (if 2 < i then clampI 1 8 c2 else c2), .int .i64 (if 3 < i then clampI 1 64 c3 else c3),
    .int .i64 (if 4 < i then clampI 0 64 c4 else c4), .int .i64 (if 5 < i then clampI 1 256 c5 else c5), .int .i64 (if 6 < i then clampI 1 4096 c6 else c6)]

set_option maxHeartbeats 4000000 in
theorem config_Clamp (c0 c1 c2 c3 c4 c5 c6 : Int) (w : World) (hL : Limits w) :
    Calls Tryz.prog 138 #[.agg #[.int .i64 c0, .int .i64 c1, .int .i64 c2, .int .i64 c3, .int .i64 c4, .int .i64 c5, .int .i64 c6]] w fun e w' =>
      e = .returned (.agg #[.int .i64 (clampI 1 4096 c0), .int .i64 (clampI 16 256 c1), .int .i64 (clampI 1 8 c2), .int .i64 (clampI 1 64 c3), .int .i64 (clampI 0 64 c4), .int .i64 (clampI 1 256 c5), .int .i64 (clampI 1 4096 c6)]) ∧ Below w.heap.size w w' := by
  have HL := Lib.hid hL
  clear hL
  go_enter Tryz.func138, Tryz.ntmps138
  go_wp2_with (go_at_call 150; refine (config_numbers w.heap.size _).mono ?_; rintro e w1 ⟨rfl, hb⟩)
  obtain ⟨b, hbz⟩ : ∃ b, b = w.heap.size := ⟨_, rfl⟩
  have hb0 : w1.heap[b]? = some (Obj.cells (clampRow c0 c1 c2 c3 c4 c5 c6 0) 23) := by rw [hbz]; exact (hb.block w.heap.size (by simp only [World.size_alloc]; omega)).trans ((alloc2_0 w _ _).trans rfl)
  have hb1 : w1.heap[b + 1]? = some (Obj.cells #[.int .i64 0, .int .i64 0, .int .i64 0, .int .i64 0, .int .i64 0, .int .i64 0, .int .i64 0] 23) := by rw [hbz]; exact (hb.block (w.heap.size + 1) (by simp only [World.size_alloc]; omega)).trans (alloc2_1 w _ _)
  have hT1 : Touch nob w w1 := (((Touch.refl nob w).alloc _).alloc _).trans (Touch.of_below hb)
  rw [← hbz]
  have HB := Lib.hid hbz
  clear hb hbz
  go_loopw [3, 4, 6] (fun _ _ c wr => ∃ i : Int, 0 ≤ i ∧ i ≤ 7 ∧ c = .int .i64 i ∧ Hid (wr.heap[b]? = some (Obj.cells (clampRow c0 c1 c2 c3 c4 c5 c6 i.toNat) 23) ∧ wr.heap[b + 1]? = some (Obj.cells #[.int .i64 0, .int .i64 0, .int .i64 0, .int .i64 0, .int .i64 0, .int .i64 0, .int .i64 0] 23) ∧ Touch nob w wr)) (fun _ _ c _ => 7 - (intOf c).toNat)
  case atStart => exact ⟨0, by omega, by omega, rfl, hb0, hb1, hT1⟩
  case round =>
    obtain ⟨i, hi0, hi, rfl, HI⟩ := hrel
    obtain ⟨r0, r1, rT⟩ := HI.out
    clear hb0 hb1 hT1
    have hl := HL.out.touch rT (fun x => x)
    have hr : b + 1 < wr.heap.size := (Array.getElem?_eq_some_iff.1 r1).1
    by_cases hlt : i < 7
    · have cellL : ∀ j v, [Value.int .i64 1, .int .i64 4096, .int .i64 16, .int .i64 256, .int .i64 1, .int .i64 8, .int .i64 1, .int .i64 64, .int .i64 0, .int .i64 64, .int .i64 1, .int .i64 256, .int .i64 1, .int .i64 4096][j]? = some v → wr.cell? ⟨0, j, none⟩ = some v := fun j v h => (hl j).trans h
      have cellB : ∀ j v, (clampRow c0 c1 c2 c3 c4 c5 c6 i.toNat)[j]? = some v → wr.cell? ⟨b, j, none⟩ = some v ∧ wr.frozen? ⟨b, j, none⟩ = false := fun j v h => ⟨by simp [World.cell?, r0, h], by simp [World.frozen?, r0]⟩
      have HT := Lib.hid rT
      have H1 := Lib.hid r1
      have H0 := Lib.hid r0
      clear hl r0 r1 rT
      rcases (show i = 0 ∨ i = 1 ∨ i = 2 ∨ i = 3 ∨ i = 4 ∨ i = 5 ∨ i = 6 by omega) with rfl | rfl | rfl | rfl | rfl | rfl | rfl
      · have l0 := cellL 0 (.int .i64 1) rfl
        have l1 := cellL 1 (.int .i64 4096) rfl
        obtain ⟨x0, x1⟩ := cellB 0 (.int .i64 c0) rfl
        have ix : ∀ (w : World), (Instr.index 175 (.agg #[.pointer (some ⟨b, 0, none⟩), .pointer (some ⟨b, 1, none⟩), .pointer (some ⟨b, 2, none⟩), .pointer (some ⟨b, 3, none⟩), .pointer (some ⟨b, 4, none⟩), .pointer (some ⟨b, 5, none⟩), .pointer (some ⟨b, 6, none⟩)]) (.int .i64 0)).run Tryz.prog w = .ok (.pointer (some ⟨b, 0, none⟩)) w := fun _ => by kernel_rfl
        clear cellL cellB
        go_wp2
        go_region
        go_wp2
        go_roundw
        case rel =>
          refine ⟨1, by omega, by omega, rfl, (set_cells (w := wr.drew) 0 _ H0.out).trans ?_, (set_other (w := wr.drew) _ (by omega)).trans H1.out, (HT.out.drew).setCell (.inr (by have := HB.out; simp; omega)) _⟩
          simp [clampRow, clampI]
          (repeat' split) <;> omega
        case measure => simp [intOf]
      · have l0 := cellL 2 (.int .i64 16) rfl
        have l1 := cellL 3 (.int .i64 256) rfl
        obtain ⟨x0, x1⟩ := cellB 1 (.int .i64 c1) rfl
        have ix : ∀ (w : World), (Instr.index 175 (.agg #[.pointer (some ⟨b, 0, none⟩), .pointer (some ⟨b, 1, none⟩), .pointer (some ⟨b, 2, none⟩), .pointer (some ⟨b, 3, none⟩), .pointer (some ⟨b, 4, none⟩), .pointer (some ⟨b, 5, none⟩), .pointer (some ⟨b, 6, none⟩)]) (.int .i64 1)).run Tryz.prog w = .ok (.pointer (some ⟨b, 1, none⟩)) w := fun _ => by kernel_rfl
        clear cellL cellB
        go_wp2
        go_region
        go_wp2
        go_roundw
        case rel =>
          refine ⟨2, by omega, by omega, rfl, (set_cells (w := wr.drew) 1 _ H0.out).trans ?_, (set_other (w := wr.drew) _ (by omega)).trans H1.out, (HT.out.drew).setCell (.inr (by have := HB.out; simp; omega)) _⟩
          simp [clampRow, clampI]
          (repeat' split) <;> omega
        case measure => simp [intOf]
      · have l0 := cellL 4 (.int .i64 1) rfl
        have l1 := cellL 5 (.int .i64 8) rfl
        obtain ⟨x0, x1⟩ := cellB 2 (.int .i64 c2) rfl
        have ix : ∀ (w : World), (Instr.index 175 (.agg #[.pointer (some ⟨b, 0, none⟩), .pointer (some ⟨b, 1, none⟩), .pointer (some ⟨b, 2, none⟩), .pointer (some ⟨b, 3, none⟩), .pointer (some ⟨b, 4, none⟩), .pointer (some ⟨b, 5, none⟩), .pointer (some ⟨b, 6, none⟩)]) (.int .i64 2)).run Tryz.prog w = .ok (.pointer (some ⟨b, 2, none⟩)) w := fun _ => by kernel_rfl
        clear cellL cellB
        go_wp2
        go_region
        go_wp2
        go_roundw
        case rel =>
          refine ⟨3, by omega, by omega, rfl, (set_cells (w := wr.drew) 2 _ H0.out).trans ?_, (set_other (w := wr.drew) _ (by omega)).trans H1.out, (HT.out.drew).setCell (.inr (by have := HB.out; simp; omega)) _⟩
          simp [clampRow, clampI]
          (repeat' split) <;> omega
        case measure => simp [intOf]
      · have l0 := cellL 6 (.int .i64 1) rfl
        have l1 := cellL 7 (.int .i64 64) rfl
        obtain ⟨x0, x1⟩ := cellB 3 (.int .i64 c3) rfl
        have ix : ∀ (w : World), (Instr.index 175 (.agg #[.pointer (some ⟨b, 0, none⟩), .pointer (some ⟨b, 1, none⟩), .pointer (some ⟨b, 2, none⟩), .pointer (some ⟨b, 3, none⟩), .pointer (some ⟨b, 4, none⟩), .pointer (some ⟨b, 5, none⟩), .pointer (some ⟨b, 6, none⟩)]) (.int .i64 3)).run Tryz.prog w = .ok (.pointer (some ⟨b, 3, none⟩)) w := fun _ => by kernel_rfl
        clear cellL cellB
        go_wp2
        go_region
        go_wp2
        go_roundw
        case rel =>
          refine ⟨4, by omega, by omega, rfl, (set_cells (w := wr.drew) 3 _ H0.out).trans ?_, (set_other (w := wr.drew) _ (by omega)).trans H1.out, (HT.out.drew).setCell (.inr (by have := HB.out; simp; omega)) _⟩
          simp [clampRow, clampI]
          (repeat' split) <;> omega
        case measure => simp [intOf]
      · have l0 := cellL 8 (.int .i64 0) rfl
        have l1 := cellL 9 (.int .i64 64) rfl
        obtain ⟨x0, x1⟩ := cellB 4 (.int .i64 c4) rfl
        have ix : ∀ (w : World), (Instr.index 175 (.agg #[.pointer (some ⟨b, 0, none⟩), .pointer (some ⟨b, 1, none⟩), .pointer (some ⟨b, 2, none⟩), .pointer (some ⟨b, 3, none⟩), .pointer (some ⟨b, 4, none⟩), .pointer (some ⟨b, 5, none⟩), .pointer (some ⟨b, 6, none⟩)]) (.int .i64 4)).run Tryz.prog w = .ok (.pointer (some ⟨b, 4, none⟩)) w := fun _ => by kernel_rfl
        clear cellL cellB
        go_wp2
        go_region
        go_wp2
        go_roundw
        case rel =>
          refine ⟨5, by omega, by omega, rfl, (set_cells (w := wr.drew) 4 _ H0.out).trans ?_, (set_other (w := wr.drew) _ (by omega)).trans H1.out, (HT.out.drew).setCell (.inr (by have := HB.out; simp; omega)) _⟩
          simp [clampRow, clampI]
          (repeat' split) <;> omega
        case measure => simp [intOf]
      · have l0 := cellL 10 (.int .i64 1) rfl
        have l1 := cellL 11 (.int .i64 256) rfl
        obtain ⟨x0, x1⟩ := cellB 5 (.int .i64 c5) rfl
        have ix : ∀ (w : World), (Instr.index 175 (.agg #[.pointer (some ⟨b, 0, none⟩), .pointer (some ⟨b, 1, none⟩), .pointer (some ⟨b, 2, none⟩), .pointer (some ⟨b, 3, none⟩), .pointer (some ⟨b, 4, none⟩), .pointer (some ⟨b, 5, none⟩), .pointer (some ⟨b, 6, none⟩)]) (.int .i64 5)).run Tryz.prog w = .ok (.pointer (some ⟨b, 5, none⟩)) w := fun _ => by kernel_rfl
        clear cellL cellB
        go_wp2
        go_region
        go_wp2
        go_roundw
        case rel =>
          refine ⟨6, by omega, by omega, rfl, (set_cells (w := wr.drew) 5 _ H0.out).trans ?_, (set_other (w := wr.drew) _ (by omega)).trans H1.out, (HT.out.drew).setCell (.inr (by have := HB.out; simp; omega)) _⟩
          simp [clampRow, clampI]
          (repeat' split) <;> omega
        case measure => simp [intOf]
      · have l0 := cellL 12 (.int .i64 1) rfl
        have l1 := cellL 13 (.int .i64 4096) rfl
        obtain ⟨x0, x1⟩ := cellB 6 (.int .i64 c6) rfl
        have ix : ∀ (w : World), (Instr.index 175 (.agg #[.pointer (some ⟨b, 0, none⟩), .pointer (some ⟨b, 1, none⟩), .pointer (some ⟨b, 2, none⟩), .pointer (some ⟨b, 3, none⟩), .pointer (some ⟨b, 4, none⟩), .pointer (some ⟨b, 5, none⟩), .pointer (some ⟨b, 6, none⟩)]) (.int .i64 6)).run Tryz.prog w = .ok (.pointer (some ⟨b, 6, none⟩)) w := fun _ => by kernel_rfl
        clear cellL cellB
        go_wp2
        go_region
        go_wp2
        go_roundw
        case rel =>
          refine ⟨7, by omega, by omega, rfl, (set_cells (w := wr.drew) 6 _ H0.out).trans ?_, (set_other (w := wr.drew) _ (by omega)).trans H1.out, (HT.out.drew).setCell (.inr (by have := HB.out; simp; omega)) _⟩
          simp [clampRow, clampI]
          (repeat' split) <;> omega
        case measure => simp [intOf]
    · obtain rfl : i = 7 := by omega
      have H0 := Lib.hid r0
      have HT := Lib.hid rT
      have cellB : ∀ j v, (clampRow c0 c1 c2 c3 c4 c5 c6 7)[j]? = some v → wr.cell? ⟨b, j, none⟩ = some v := fun j v h => by simp [World.cell?, r0, h]
      have x0 := cellB 0 (.int .i64 (clampI 1 4096 c0)) rfl
      have x1 := cellB 1 (.int .i64 (clampI 16 256 c1)) rfl
      have x2 := cellB 2 (.int .i64 (clampI 1 8 c2)) rfl
      have x3 := cellB 3 (.int .i64 (clampI 1 64 c3)) rfl
      have x4 := cellB 4 (.int .i64 (clampI 0 64 c4)) rfl
      have x5 := cellB 5 (.int .i64 (clampI 1 256 c5)) rfl
      have x6 := cellB 6 (.int .i64 (clampI 1 4096 c6)) rfl
      have y : ∀ j v, (#[.int .i64 0, .int .i64 0, .int .i64 0, .int .i64 0, .int .i64 0, .int .i64 0, .int .i64 0] : Array Value)[j]? = some v → wr.cell? ⟨b + 1, j, none⟩ = some v ∧ wr.frozen? ⟨b + 1, j, none⟩ = false := fun j v h => ⟨by simp [World.cell?, r1, h], by simp [World.frozen?, r1]⟩
      obtain ⟨y0, z0⟩ := y 0 (.int .i64 0) rfl
      obtain ⟨y1, z1⟩ := y 1 (.int .i64 0) rfl
      obtain ⟨y2, z2⟩ := y 2 (.int .i64 0) rfl
      obtain ⟨y3, z3⟩ := y 3 (.int .i64 0) rfl
      obtain ⟨y4, z4⟩ := y 4 (.int .i64 0) rfl
      obtain ⟨y5, z5⟩ := y 5 (.int .i64 0) rfl
      obtain ⟨y6, z6⟩ := y 6 (.int .i64 0) rfl
      have H1 := Lib.hid r1
      clear cellB r0 r1 rT hl y
      go_wp2
      refine bodyPost_ret (v := .agg #[.int .i64 (clampI 1 4096 c0), .int .i64 (clampI 16 256 c1), .int .i64 (clampI 1 8 c2), .int .i64 (clampI 1 64 c3), .int .i64 (clampI 0 64 c4), .int .i64 (clampI 1 256 c5), .int .i64 (clampI 1 4096 c6)]) (by simp [results, Tryz.results138, go_sem, y0, y1, y2, y3, y4, y5, y6]) rfl ⟨rfl, Touch.below ?_⟩
      repeat (first | with_reducible exact HT.out | refine Touch.setCell ?_ (.inr (by have := HB.out; simp; omega)) _)

/-- Are a config's numbers right? -/
def cfgOk (c0 c1 c2 c3 c4 c5 c6 : Int) : Bool :=
  decide (1 ≤ c0) && decide (c0 ≤ 4096) && (decide (16 ≤ c1) && decide (c1 ≤ 256)) && (decide (1 ≤ c2) && decide (c2 ≤ 8)) && (decide (1 ≤ c3) && decide (c3 ≤ 64)) && (decide (0 ≤ c4) && decide (c4 ≤ 64)) && (decide (1 ≤ c5) && decide (c5 ≤ 256)) && (decide (1 ≤ c6) && decide (c6 ≤ 4096))
theorem cfgOk_iff {c0 c1 c2 c3 c4 c5 c6 : Int} : cfgOk c0 c1 c2 c3 c4 c5 c6 = true ↔ (1 ≤ c0 ∧ c0 ≤ 4096) ∧ (16 ≤ c1 ∧ c1 ≤ 256) ∧ (1 ≤ c2 ∧ c2 ≤ 8) ∧ (1 ≤ c3 ∧ c3 ≤ 64) ∧ (0 ≤ c4 ∧ c4 ≤ 64) ∧ (1 ≤ c5 ∧ c5 ≤ 256) ∧ (1 ≤ c6 ∧ c6 ≤ 4096) := by
  unfold cfgOk; simp only [Bool.and_eq_true, decide_eq_true_eq]; omega

def cfgSame (a0 a1 a2 a3 a4 a5 a6 b0 b1 b2 b3 b4 b5 b6 : Int) : Bool := a0 == b0 && (a1 == b1 && (a2 == b2 && (a3 == b3 && (a4 == b4 && (a5 == b5 && a6 == b6)))))
theorem cfgSame_self (a0 a1 a2 a3 a4 a5 a6 : Int) : cfgSame a0 a1 a2 a3 a4 a5 a6 a0 a1 a2 a3 a4 a5 a6 = true := by simp [cfgSame]
theorem cfgSame_clamp (c0 c1 c2 c3 c4 c5 c6 : Int) : cfgSame (clampI 1 4096 c0) (clampI 16 256 c1) (clampI 1 8 c2) (clampI 1 64 c3) (clampI 0 64 c4) (clampI 1 256 c5) (clampI 1 4096 c6) c0 c1 c2 c3 c4 c5 c6 = cfgOk c0 c1 c2 c3 c4 c5 c6 := by
  rw [Bool.eq_iff_iff, cfgOk_iff]
  unfold cfgSame
  simp only [Bool.and_eq_true, beq_iff_eq]
  rw [clampI_iff (by omega), clampI_iff (by omega), clampI_iff (by omega), clampI_iff (by omega), clampI_iff (by omega), clampI_iff (by omega), clampI_iff (by omega)]
set_option maxHeartbeats 1000000 in
theorem run_cfg_eql (a0 a1 a2 a3 a4 a5 a6 b0 b1 b2 b3 b4 b5 b6 : Int) (w : World) :
    (binOp .eql 23 (.agg #[.int .i64 a0, .int .i64 a1, .int .i64 a2, .int .i64 a3, .int .i64 a4, .int .i64 a5, .int .i64 a6]) (.agg #[.int .i64 b0, .int .i64 b1, .int .i64 b2, .int .i64 b3, .int .i64 b4, .int .i64 b5, .int .i64 b6])).run Tryz.prog w = .ok (.bool (cfgSame a0 a1 a2 a3 a4 a5 a6 b0 b1 b2 b3 b4 b5 b6)) w := by
  unfold cfgSame
  go_simp
  repeat' split
  all_goals simp_all
set_option maxHeartbeats 1000000 in
theorem run_cfg_neq (a0 a1 a2 a3 a4 a5 a6 b0 b1 b2 b3 b4 b5 b6 : Int) (w : World) :
    (binOp .neq 23 (.agg #[.int .i64 a0, .int .i64 a1, .int .i64 a2, .int .i64 a3, .int .i64 a4, .int .i64 a5, .int .i64 a6]) (.agg #[.int .i64 b0, .int .i64 b1, .int .i64 b2, .int .i64 b3, .int .i64 b4, .int .i64 b5, .int .i64 b6])).run Tryz.prog w = .ok (.bool (!cfgSame a0 a1 a2 a3 a4 a5 a6 b0 b1 b2 b3 b4 b5 b6)) w := by
  unfold cfgSame
  go_simp
  repeat' split
  all_goals simp_all

set_option maxHeartbeats 1000000 in
theorem config_Right (c0 c1 c2 c3 c4 c5 c6 : Int) (w : World) (hL : Limits w) :
    Calls Tryz.prog 103 #[.agg #[.int .i64 c0, .int .i64 c1, .int .i64 c2, .int .i64 c3, .int .i64 c4, .int .i64 c5, .int .i64 c6]] w fun e w' => e = .returned (.bool (cfgOk c0 c1 c2 c3 c4 c5 c6)) ∧ Below w.heap.size w w' := by
  have HL := Lib.hid hL
  clear hL
  go_enter Tryz.func103, Tryz.ntmps103
  go_wp2
  obtain ⟨W, hW⟩ : ∃ W, W = w.alloc (Obj.cells #[.int .i64 c0, .int .i64 c1, .int .i64 c2, .int .i64 c3, .int .i64 c4, .int .i64 c5, .int .i64 c6] 23) := ⟨_, rfl⟩
  obtain ⟨b, hb⟩ : ∃ b, b = w.heap.size := ⟨_, rfl⟩
  rw [← hW, ← hb]
  have hr : W.heap[b]? = some (Obj.cells #[.int .i64 c0, .int .i64 c1, .int .i64 c2, .int .i64 c3, .int .i64 c4, .int .i64 c5, .int .i64 c6] 23) := by rw [hW, hb]; exact World.alloc_heap_new _ _
  have hT : Touch nob w W := by rw [hW]; exact (Touch.refl _ _).alloc _
  have cB : ∀ j v, (#[.int .i64 c0, .int .i64 c1, .int .i64 c2, .int .i64 c3, .int .i64 c4, .int .i64 c5, .int .i64 c6] : Array Value)[j]? = some v → W.cell? ⟨b, j, none⟩ = some v := fun j v h => by simp [World.cell?, hr, h]
  have k0 := cell_regrown (cB 0 (.int .i64 c0) rfl)
  have k1 := cell_regrown (cB 1 (.int .i64 c1) rfl)
  have k2 := cell_regrown (cB 2 (.int .i64 c2) rfl)
  have k3 := cell_regrown (cB 3 (.int .i64 c3) rfl)
  have k4 := cell_regrown (cB 4 (.int .i64 c4) rfl)
  have k5 := cell_regrown (cB 5 (.int .i64 c5) rfl)
  have k6 := cell_regrown (cB 6 (.int .i64 c6) rfl)
  have cC : ∀ d os, Calls Tryz.prog 138 #[.agg #[.int .i64 c0, .int .i64 c1, .int .i64 c2, .int .i64 c3, .int .i64 c4, .int .i64 c5, .int .i64 c6]] (grow (redrawn W d) os) fun e w'' => e = .returned (.agg #[.int .i64 (clampI 1 4096 c0), .int .i64 (clampI 16 256 c1), .int .i64 (clampI 1 8 c2), .int .i64 (clampI 1 64 c3), .int .i64 (clampI 0 64 c4), .int .i64 (clampI 1 256 c5), .int .i64 (clampI 1 4096 c6)]) ∧ ∃ p : Regrown, w'' = grow (redrawn W p.d) p.os := fun d os =>
    Calls.regrown_of (config_Clamp c0 c1 c2 c3 c4 c5 c6 _ ((HL.out.touch hT (fun x => x)).touch (S := nob) (Touch.of_below (below_regrown W d os)) (fun x => x)))
  have H := Lib.hid (And.intro hT hb)
  clear hW hb hr hT cB
  have hE := run_cfg_eql (clampI 1 4096 c0) (clampI 16 256 c1) (clampI 1 8 c2) (clampI 1 64 c3) (clampI 0 64 c4) (clampI 1 256 c5) (clampI 1 4096 c6) c0 c1 c2 c3 c4 c5 c6
  have HE := Lib.hid (cfgSame_clamp c0 c1 c2 c3 c4 c5 c6)
  refine wp_region_quiet_below (by kernel_rfl) (by kernel_rfl) ?_
  repeat (quiet_step (exact cC _ _))
  refine wpQuiet_nil ?_
  intro _ hw'
  obtain ⟨⟨dq, osq⟩, hw''⟩ := hw'
  subst hw''
  go_wp2
  go_ret
  exact ⟨ret_bool HE.out, (H.out.1.trans (Touch.of_below (below_regrown W dq osq))).below⟩
end Go.Proofs.YtflhjbmoncbomaaGreatDoor
