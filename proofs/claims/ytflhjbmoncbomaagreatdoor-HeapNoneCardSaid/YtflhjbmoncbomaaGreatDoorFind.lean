/- Slot and Find, walked. Conditions: the tables of limits and of sizes read as laid. -/
import Derived.Test.YtflhjbmoncbomaaGreatDoorAddr
import Derived.Deep.RegionWith
namespace Go.Proofs.YtflhjbmoncbomaaGreatDoor
open Go.RowKit Go.Sort

set_option maxHeartbeats 1000000 in
theorem addr_Slot (c0 c1 c2 c3 c4 c5 c6 k b s : Int) (w : World) (hL : Limits w) (hS : Sizes w) :
    Calls Tryz.prog 141 #[CfgV c0 c1 c2 c3 c4 c5 c6, .int .i64 k, .int .i64 b, .int .i64 s] w fun e w' => e = .returned (.int .i64 (ifB (plOk c0 c1 c2 c3 c4 c5 c6 k b s 0) (plA c1 k b s 0))) ∧ Below w.heap.size w w' := by
  have HL := Lib.hid hL
  have HZ := Lib.hid hS
  clear hL hS
  go_enter Tryz.func141, Tryz.ntmps141
  go_wp2_with (go_at_call 153; refine (addr_Of c0 c1 c2 c3 c4 c5 c6 k b s 0 _ (HL.out.touch (S := nob) (by repeat (first | with_reducible exact Touch.refl _ _ | with_reducible assumption | with_reducible apply Touch.alloc | with_reducible apply Touch.drewN | with_reducible apply Touch.drew | with_reducible refine Touch.setCell ?_ (.inr (by first | omega | (simp; done) | (simp; omega))) _)) (fun x => x)) (HZ.out.touch (S := nob) (by repeat (first | with_reducible exact Touch.refl _ _ | with_reducible assumption | with_reducible apply Touch.alloc | with_reducible apply Touch.drewN | with_reducible apply Touch.drew | with_reducible refine Touch.setCell ?_ (.inr (by first | omega | (simp; done) | (simp; omega))) _)) (fun x => x))).mono ?_; rintro e w1 ⟨rfl, hb⟩)
  go_ret
  exact ⟨rfl, Touch.below (Touch.trans (by repeat (first | with_reducible exact Touch.refl _ _ | with_reducible assumption | with_reducible apply Touch.alloc | with_reducible apply Touch.drewN | with_reducible apply Touch.drew | with_reducible refine Touch.setCell ?_ (.inr (by first | omega | (simp; done) | (simp; omega))) _)) (Touch.of_below hb))⟩

def fdOk (c0 c1 c2 c3 c4 c5 c6 k a : Int) : Bool := blkOk c0 c1 c2 c3 c4 c5 c6 a && (isCls k && decide ((a - 1 - (a - 1) / c1 * c1) / clsSize k < perBlock c1 k))
def fdV (c1 k a : Int) : Bool → Value
  | true => PlV ((a - 1) / c1) ((a - 1 - (a - 1) / c1 * c1) / clsSize k) ((a - 1 - (a - 1) / c1 * c1) % clsSize k)
  | false => PlV 0 0 0
theorem fdOk_iff {c0 c1 c2 c3 c4 c5 c6 k a : Int} : fdOk c0 c1 c2 c3 c4 c5 c6 k a = true ↔ blkOk c0 c1 c2 c3 c4 c5 c6 a = true ∧ isCls k = true ∧ (a - 1 - (a - 1) / c1 * c1) / clsSize k < perBlock c1 k := by unfold fdOk; simp

set_option maxHeartbeats 4000000 in
theorem addr_Find (c0 c1 c2 c3 c4 c5 c6 k a : Int) (w : World) (hL : Limits w) (hS : Sizes w) :
    Calls Tryz.prog 146 #[CfgV c0 c1 c2 c3 c4 c5 c6, .int .i64 k, .int .i64 a] w fun e w' => e = .returned (.tuple #[fdV c1 k a (fdOk c0 c1 c2 c3 c4 c5 c6 k a), .bool (fdOk c0 c1 c2 c3 c4 c5 c6 k a)]) ∧ Below w.heap.size w w' := by
  have HL := Lib.hid hL
  have HZ := Lib.hid hS
  clear hL hS
  cases hk : blkOk c0 c1 c2 c3 c4 c5 c6 a
  · have hF : fdOk c0 c1 c2 c3 c4 c5 c6 k a = false := by unfold fdOk; rw [hk]; rfl
    rw [hF]
    have HK := Lib.hid hk
    clear hk hF
    go_enter Tryz.func146, Tryz.ntmps146
    go_wp2_with (go_at_call 145; refine (addr_Block c0 c1 c2 c3 c4 c5 c6 a _ (HL.out.touch (S := nob) (by repeat (first | with_reducible exact Touch.refl _ _ | with_reducible assumption | with_reducible apply Touch.alloc | with_reducible apply Touch.drewN | with_reducible apply Touch.drew | with_reducible refine Touch.setCell ?_ (.inr (by first | omega | (simp; done) | (simp; omega))) _)) (fun x => x))).mono ?_; rintro e w1 ⟨rfl, hb⟩; rw [HK.out]; simp only [ifB]; obtain ⟨hcc, hff⟩ := bcell hb)
    have B1 : w1.heap[w.heap.size + 1]? = some (Obj.cells #[.int .i64 0, .int .i64 0, .int .i64 0] 169) := (hb.block (w.heap.size + 1) (by simp only [World.size_alloc]; omega)).trans (alloc2_1 w _ _)
    have y0 : w1.cell? ⟨w.heap.size + 1, 0, none⟩ = some (.int .i64 0) := by simp [World.cell?, B1]
    have y1 : w1.cell? ⟨w.heap.size + 1, 1, none⟩ = some (.int .i64 0) := by simp [World.cell?, B1]
    have y2 : w1.cell? ⟨w.heap.size + 1, 2, none⟩ = some (.int .i64 0) := by simp [World.cell?, B1]
    refine bodyPost_ret (v := .tuple #[PlV 0 0 0, .bool false]) (by simp [results, Tryz.results146, go_sem, y0, y1, y2]) rfl ⟨rfl, Touch.below ?_⟩
    have HT := Lib.hid (Touch.trans (S := nob) (show Touch nob w _ from (((Touch.refl nob w).alloc _).alloc _)) (Touch.of_below hb))
    repeat (first | with_reducible exact HT.out | refine Touch.setCell ?_ (.inr (by simp)) _)
  cases hi : isCls k
  · have hF : fdOk c0 c1 c2 c3 c4 c5 c6 k a = false := by unfold fdOk; rw [hk, hi]; rfl
    rw [hF]
    have HK := Lib.hid hk
    have HI := Lib.hid hi
    clear hk hF hi
    go_enter Tryz.func146, Tryz.ntmps146
    go_wp2_with (first | (go_at_call 145; refine (addr_Block c0 c1 c2 c3 c4 c5 c6 a _ (HL.out.touch (S := nob) (by repeat (first | with_reducible exact Touch.refl _ _ | with_reducible assumption | with_reducible apply Touch.alloc | with_reducible apply Touch.drewN | with_reducible apply Touch.drew | with_reducible refine Touch.setCell ?_ (.inr (by first | omega | (simp; done) | (simp; omega))) _)) (fun x => x))).mono ?_; rintro e w1 ⟨rfl, hb⟩; rw [HK.out]; simp only [ifB]; obtain ⟨hcc, hff⟩ := bcell hb) | (go_at_call 118; refine (class_Is _ _).mono ?_; rintro e w2 ⟨rfl, rfl⟩; rw [HI.out]))
    have B1 : w1.heap[w.heap.size + 1]? = some (Obj.cells #[.int .i64 0, .int .i64 0, .int .i64 0] 169) := (hb.block (w.heap.size + 1) (by simp only [World.size_alloc]; omega)).trans (alloc2_1 w _ _)
    have y0 : w1.cell? ⟨w.heap.size + 1, 0, none⟩ = some (.int .i64 0) := by simp [World.cell?, B1]
    have y1 : w1.cell? ⟨w.heap.size + 1, 1, none⟩ = some (.int .i64 0) := by simp [World.cell?, B1]
    have y2 : w1.cell? ⟨w.heap.size + 1, 2, none⟩ = some (.int .i64 0) := by simp [World.cell?, B1]
    refine bodyPost_ret (v := .tuple #[PlV 0 0 0, .bool false]) (by simp [results, Tryz.results146, go_sem, y0, y1, y2]) rfl ⟨rfl, Touch.below ?_⟩
    have HT := Lib.hid (Touch.trans (S := nob) (show Touch nob w _ from (((Touch.refl nob w).alloc _).alloc _)) (Touch.of_below hb))
    repeat (first | with_reducible exact HT.out | refine Touch.setCell ?_ (.inr (by simp)) _)
  have HK := Lib.hid hk
  have HI := Lib.hid hi
  obtain ⟨hc, a0, a1⟩ := blkOk_iff.1 hk
  obtain ⟨⟨u0, v0⟩, ⟨u1, v1⟩, _⟩ := cfgOk_iff.1 hc
  have s0 := clsSize_lo hi
  have s1 := (clsSize_bd k).2
  have ⟨m0, m1⟩ := mul_bd (a := c0) (b := c1) (A := 4096) (B := 256) (by omega) (by omega) (by omega) (by omega)
  have q0 : 0 ≤ (a - 1) / c1 := Int.ediv_nonneg (by omega) (by omega)
  have q1 : (a - 1) / c1 ≤ a - 1 := Int.ediv_le_self _ (by omega)
  have q2 : 0 ≤ (a - 1) / c1 * c1 := Int.mul_nonneg q0 (by omega)
  have q3 : (a - 1) / c1 * c1 ≤ a - 1 := Int.ediv_mul_le _ (by omega)
  have q4 : a - 1 < ((a - 1) / c1 + 1) * c1 := Int.lt_ediv_add_one_mul_self _ (by omega)
  rw [Int.add_mul, Int.one_mul] at q4
  have HF := Lib.hid (show fdOk c0 c1 c2 c3 c4 c5 c6 k a = decide ((a - 1 - (a - 1) / c1 * c1) / clsSize k < perBlock c1 k) by unfold fdOk; rw [hk, hi]; rfl)
  obtain ⟨q, hq⟩ : ∃ q, (a - 1) / c1 = q := ⟨_, rfl⟩
  have HQ := Lib.hid hq
  rw [hq] at q0 q1 q2 q3 q4 HF
  have l0 : 0 ≤ a - 1 - q * c1 := by omega
  have l1 : a - 1 - q * c1 < c1 := by omega
  have d0 : 0 ≤ (a - 1 - q * c1) / clsSize k := Int.ediv_nonneg l0 (by omega)
  have d1 : (a - 1 - q * c1) / clsSize k ≤ a - 1 - q * c1 := Int.ediv_le_self _ l0
  have r0 : 0 ≤ (a - 1 - q * c1) % clsSize k := Int.emod_nonneg _ (by omega)
  have r1 : (a - 1 - q * c1) % clsSize k < clsSize k := Int.emod_lt_of_pos _ (by omega)
  have hdd : Int.tdiv (a - 1 - q * c1) (clsSize k) = (a - 1 - q * c1) / clsSize k := Int.tdiv_eq_ediv_of_nonneg l0
  have hmm : Int.tmod (a - 1 - q * c1) (clsSize k) = (a - 1 - q * c1) % clsSize k := Int.tmod_eq_emod_of_nonneg l0
  clear hk hi hc hq
  obtain ⟨d, hd⟩ : ∃ d, (a - 1 - q * c1) / clsSize k = d := ⟨_, rfl⟩
  obtain ⟨r, hr⟩ : ∃ r, (a - 1 - q * c1) % clsSize k = r := ⟨_, rfl⟩
  have WD : Hid (IntKind.i64.wrap d = d) := by show IntKind.i64.wrap d = d; exact IntWalk.i64_in _ (by omega)
  have HV : Hid (∀ b, fdV c1 k a b = match b with | true => PlV q d r | false => PlV 0 0 0) := by intro b; show fdV c1 k a b = _; cases b; rfl; unfold fdV; rw [HQ.out, hd, hr]
  have HD := Lib.hid hd
  rw [hd] at d0 d1 HF hdd
  rw [hr] at r0 r1 hmm
  have ne : clsSize k ≠ 0 := by omega
  obtain ⟨f, hf⟩ : ∃ f, decide (d < perBlock c1 k) = f := ⟨_, rfl⟩
  have HF2 := Lib.hid (HF.out.trans hf)
  rw [HF2.out]
  have HF3 := Lib.hid hf
  clear hf
  go_enter Tryz.func146, Tryz.ntmps146
  go_wp2_with (first | (go_at_call 145; refine (addr_Block c0 c1 c2 c3 c4 c5 c6 a _ (HL.out.touch (S := nob) (by repeat (first | with_reducible exact Touch.refl _ _ | with_reducible assumption | with_reducible apply Touch.alloc | with_reducible apply Touch.drewN | with_reducible apply Touch.drew | with_reducible refine Touch.setCell ?_ (.inr (by first | omega | (simp; done) | (simp; omega))) _)) (fun x => x))).mono ?_; rintro e w1 ⟨rfl, hb⟩; rw [HK.out]; simp only [ifB, HQ.out]; obtain ⟨hcc, hff⟩ := bcell hb) | (go_at_call 118; refine (class_Is _ _).mono ?_; rintro e w2 ⟨rfl, rfl⟩; rw [HI.out]))
  have HT1 : Hid (Touch nob w w1) := Touch.trans (show Touch nob w _ from (((Touch.refl nob w).alloc _).alloc _)) (Touch.of_below hb)
  have B0 : w1.heap[w.heap.size]? = some (Obj.cells (CfgRow c0 c1 c2 c3 c4 c5 c6) 23) := (hb.block w.heap.size (by simp only [World.size_alloc]; omega)).trans ((alloc2_0 w _ _).trans rfl)
  have B1 : w1.heap[w.heap.size + 1]? = some (Obj.cells #[.int .i64 0, .int .i64 0, .int .i64 0] 169) := (hb.block (w.heap.size + 1) (by simp only [World.size_alloc]; omega)).trans (alloc2_1 w _ _)
  have HBB := Lib.hid (And.intro B0 B1)
  clear B0 B1 hd hr
  go_region_with (first | (go_at_call 143; refine (class_Size _ _ (HZ.out.touch (S := nob) (by have hT1 := HT1.out; repeat (first | with_reducible exact Touch.refl _ _ | with_reducible assumption | with_reducible apply Touch.alloc | with_reducible apply Touch.drewN | with_reducible apply Touch.drew | with_reducible refine Touch.setCell ?_ (.inr (by first | omega | (simp; done) | (simp; omega))) _)) (fun h => h))).mono ?_; rintro e w9 ⟨rfl, rfl⟩))
  all_goals
    rw [WD.out]
    obtain ⟨W, hW⟩ : ∃ W, W = (w1.alloc (Obj.cells #[.int .i64 q, .int .i64 d, .int .i64 r] 169)).drew := ⟨_, rfl⟩
    rw [← hW]
    have hT : Touch nob w1 W := by rw [hW]; exact ((Touch.refl _ _).alloc _).drew
    have hp : W.heap[w1.heap.size]? = some (Obj.cells #[.int .i64 q, .int .i64 d, .int .i64 r] 169) := by rw [hW]; exact World.alloc_heap_new _ _
    have hB0 := (hT.block _ (Array.getElem?_eq_some_iff.1 HBB.out.1).1 (fun x => x)).trans HBB.out.1
    have hB1 := (hT.block _ (Array.getElem?_eq_some_iff.1 HBB.out.2).1 (fun x => x)).trans HBB.out.2
    have HTW := Lib.hid (HT1.out.trans hT)
    have p0 : W.cell? ⟨w1.heap.size, 0, none⟩ = some (.int .i64 q) := by simp [World.cell?, hp]
    have p1 : W.cell? ⟨w1.heap.size, 1, none⟩ = some (.int .i64 d) := by simp [World.cell?, hp]
    have p2 : W.cell? ⟨w1.heap.size, 2, none⟩ = some (.int .i64 r) := by simp [World.cell?, hp]
    have z1 : W.cell? ⟨w.heap.size, 1, none⟩ = some (.int .i64 c1) := by simp [World.cell?, hB0]
    have y0 : W.cell? ⟨w.heap.size + 1, 0, none⟩ = some (.int .i64 0) := by simp [World.cell?, hB1]
    have y1 : W.cell? ⟨w.heap.size + 1, 1, none⟩ = some (.int .i64 0) := by simp [World.cell?, hB1]
    have y2 : W.cell? ⟨w.heap.size + 1, 2, none⟩ = some (.int .i64 0) := by simp [World.cell?, hB1]
    have g0 : W.frozen? ⟨w.heap.size + 1, 0, none⟩ = false := by simp [World.frozen?, hB1]
    have g1 : W.frozen? ⟨w.heap.size + 1, 1, none⟩ = false := by simp [World.frozen?, hB1]
    have g2 : W.frozen? ⟨w.heap.size + 1, 2, none⟩ = false := by simp [World.frozen?, hB1]
    have HS1 : Hid (∀ n, Sizes (W.drewN n)) := fun n => HZ.out.touch (S := nob) (HTW.out.drewN n) (fun h => h)
    clear hW hp hB0 hB1 hT hcc hff hb
    cases f
    · have hlt : perBlock c1 k ≤ d := by have := HF3.out; simpa using this
      go_wp2_with fail
      go_quiet ((go_at_call 152; exact Calls.quiet_of_same ((class_PerBlock _ _ _ (HS1.out _)).mono fun _ _ h => ⟨h.1, h.2.symm⟩)))
      go_wp2
      refine bodyPost_ret (v := .tuple #[PlV 0 0 0, .bool false]) (by simp [results, Tryz.results146, go_sem, y0, y1, y2]) rfl ⟨by rw [HV.out], Touch.below ?_⟩
      repeat (first | with_reducible exact HTW.out | with_reducible apply Touch.drewN | refine Touch.setCell ?_ (.inr (by simp)) _)
    · have hlt : d < perBlock c1 k := by have := HF3.out; simpa using this
      go_wp2_with fail
      go_quiet ((go_at_call 152; exact Calls.quiet_of_same ((class_PerBlock _ _ _ (HS1.out _)).mono fun _ _ h => ⟨h.1, h.2.symm⟩)))
      go_wp2
      refine bodyPost_ret (v := .tuple #[PlV q d r, .bool true]) (by simp [results, Tryz.results146, go_sem, y0, y1, y2]) rfl ⟨by rw [HV.out], Touch.below ?_⟩
      repeat (first | with_reducible exact HTW.out | with_reducible apply Touch.drewN | refine Touch.setCell ?_ (.inr (by simp)) _)
theorem pl_where {c0 c1 c2 c3 c4 c5 c6 k b s x : Int} (h : plOk c0 c1 c2 c3 c4 c5 c6 k b s x = true) : (plA c1 k b s x - 1) / c1 = b ∧ (plA c1 k b s x - 1 - b * c1) / clsSize k = s ∧ (plA c1 k b s x - 1 - b * c1) % clsSize k = x ∧ blkOk c0 c1 c2 c3 c4 c5 c6 (plA c1 k b s x) = true := by
  obtain ⟨⟨m0, m1⟩, ⟨m2, m3⟩, m4⟩ := pl_bd h
  obtain ⟨hc, hi, ⟨b0, b1⟩, ⟨s0, s1⟩, x0, x1⟩ := plOk_iff.1 h
  obtain ⟨⟨u0, v0⟩, ⟨u1, v1⟩, _⟩ := cfgOk_iff.1 hc
  have z0 := clsSize_lo hi
  refine ⟨?_, ?_, ?_, ?_⟩
  · rw [show plA c1 k b s x - 1 = (s * clsSize k + x) + b * c1 by unfold plA; omega, Int.add_mul_ediv_right _ _ (by omega), Int.ediv_eq_zero_of_lt (by omega) (by omega)]; omega
  · rw [show plA c1 k b s x - 1 - b * c1 = x + s * clsSize k by unfold plA; omega, Int.add_mul_ediv_right _ _ (by omega), Int.ediv_eq_zero_of_lt x0 x1]; omega
  · rw [show plA c1 k b s x - 1 - b * c1 = x + s * clsSize k by unfold plA; omega, Int.add_mul_emod_self_right, Int.emod_eq_of_lt x0 x1]
  · exact blkOk_iff.2 ⟨hc, by unfold plA; omega, by unfold plA; omega⟩
theorem pl_inj {c0 c1 c2 c3 c4 c5 c6 k b s x b' s' x' : Int} (h : plOk c0 c1 c2 c3 c4 c5 c6 k b s x = true) (h' : plOk c0 c1 c2 c3 c4 c5 c6 k b' s' x' = true) :
    (plA c1 k b s x == plA c1 k b' s' x') = (b == b' && (s == s' && x == x')) := by
  obtain ⟨e1, e2, e3, _⟩ := pl_where h
  obtain ⟨f1, f2, f3, _⟩ := pl_where h'
  rw [Bool.eq_iff_iff]
  simp only [beq_iff_eq, Bool.and_eq_true]
  constructor
  · intro e
    have hb : b = b' := by rw [← e1, ← f1, e]
    subst hb
    exact ⟨rfl, by rw [← e2, ← f2, e], by rw [← e3, ← f3, e]⟩
  · rintro ⟨rfl, rfl, rfl⟩; rfl
end Go.Proofs.YtflhjbmoncbomaaGreatDoor
