/- Slot and Find, walked. Conditions: the tables of limits and of sizes read as laid. The document's answers for addresses, walked. Conditions: none. -/
import Derived.Test.YtflhjbmoncbomaaGreatDoorAddr
import Derived.Deep.RegionWith
import Derived.Deep.Cut
namespace Go.Proofs.YtflhjbmoncbomaaGreatDoor
open Go.RowKit Go.Sort

set_option maxHeartbeats 1000000 in
theorem addr_Slot (c0 c1 c2 c3 c4 c5 c6 k b s : Int) (w : World) (hL : Limits w) (hS : Sizes w) :
    Calls Tryz.prog 141 #[CfgV c0 c1 c2 c3 c4 c5 c6, .int .i64 k, .int .i64 b, .int .i64 s] w fun e w' => e = .returned (.int .i64 (ifB (plOk c0 c1 c2 c3 c4 c5 c6 k b s 0) (plA c1 k b s 0))) ∧ Below w.heap.size w w' := by
  have HL := Lib.hid hL
  have HZ := Lib.hid hS
  clear hL hS
  go_enter Tryz.func141, Tryz.ntmps141
  go_wp2_with (go_at_call 153; refine (addr_Of c0 c1 c2 c3 c4 c5 c6 k b s 0 _ (HL.out.touch (S := nob) (by (repeat (first | with_reducible exact Touch.refl _ _ | with_reducible assumption | with_reducible apply Touch.alloc | with_reducible apply Touch.drewN | with_reducible apply Touch.drew | with_reducible refine Touch.setCell ?_ (.inr (by first | omega | (simp; done) | (simp; omega))) _))) (fun x => x)) (HZ.out.touch (S := nob) (by (repeat (first | with_reducible exact Touch.refl _ _ | with_reducible assumption | with_reducible apply Touch.alloc | with_reducible apply Touch.drewN | with_reducible apply Touch.drew | with_reducible refine Touch.setCell ?_ (.inr (by first | omega | (simp; done) | (simp; omega))) _))) (fun x => x))).mono ?_; rintro e w1 ⟨rfl, hb⟩)
  go_ret
  exact ⟨rfl, Touch.below (Touch.trans (by (repeat (first | with_reducible exact Touch.refl _ _ | with_reducible assumption | with_reducible apply Touch.alloc | with_reducible apply Touch.drewN | with_reducible apply Touch.drew | with_reducible refine Touch.setCell ?_ (.inr (by first | omega | (simp; done) | (simp; omega))) _))) (Touch.of_below hb))⟩

def fdOk (c0 c1 c2 c3 c4 c5 c6 k a : Int) : Bool := blkOk c0 c1 c2 c3 c4 c5 c6 a && (isCls k && decide ((a - 1 - (a - 1) / c1 * c1) / clsSize k < perBlock c1 k))
def fdV (c1 k a : Int) : Bool → Value
  | true => PlV ((a - 1) / c1) ((a - 1 - (a - 1) / c1 * c1) / clsSize k) ((a - 1 - (a - 1) / c1 * c1) % clsSize k)
  | false => PlV 0 0 0
theorem fdOk_iff {c0 c1 c2 c3 c4 c5 c6 k a : Int} : fdOk c0 c1 c2 c3 c4 c5 c6 k a = true ↔ blkOk c0 c1 c2 c3 c4 c5 c6 a = true ∧ isCls k = true ∧ (a - 1 - (a - 1) / c1 * c1) / clsSize k < perBlock c1 k := by unfold fdOk; simp

set_option maxHeartbeats 4000000 in
theorem addr_Find (c0 c1 c2 c3 c4 c5 c6 k a : Int) (w : World) (hL : Limits w) (hS : Sizes w) :
    Calls Tryz.prog 146 #[CfgV c0 c1 c2 c3 c4 c5 c6, .int .i64 k, .int .i64 a] w fun e w' => e = .returned (.tuple #[fdV c1 k a (fdOk c0 c1 c2 c3 c4 c5 c6 k a), .bool (fdOk c0 c1 c2 c3 c4 c5 c6 k a)]) ∧ Below w.heap.size w w' := by
  have HL := Lib.hid hL
  have HZ := Lib.hid hS
  clear hL hS
  cases hk : blkOk c0 c1 c2 c3 c4 c5 c6 a
  · have hF : fdOk c0 c1 c2 c3 c4 c5 c6 k a = false := by unfold fdOk; rw [hk]; rfl
    rw [hF]
    have HK := Lib.hid hk
    clear hk hF
    go_enter Tryz.func146, Tryz.ntmps146
    go_wp2_with (go_at_call 145; refine (addr_Block c0 c1 c2 c3 c4 c5 c6 a _ (HL.out.touch (S := nob) (by (repeat (first | with_reducible exact Touch.refl _ _ | with_reducible assumption | with_reducible apply Touch.alloc | with_reducible apply Touch.drewN | with_reducible apply Touch.drew | with_reducible refine Touch.setCell ?_ (.inr (by first | omega | (simp; done) | (simp; omega))) _))) (fun x => x))).mono ?_; rintro e w1 ⟨rfl, hb⟩; rw [HK.out]; simp only [ifB]; obtain ⟨hcc, hff⟩ := bcell hb)
    have B1 : w1.heap[w.heap.size + 1]? = some (Obj.cells #[.int .i64 0, .int .i64 0, .int .i64 0] 169) := (hb.block (w.heap.size + 1) (by simp only [World.size_alloc]; omega)).trans (alloc2_1 w _ _)
    have y0 : w1.cell? ⟨w.heap.size + 1, 0, none⟩ = some (.int .i64 0) := by simp [World.cell?, B1]
    have y1 : w1.cell? ⟨w.heap.size + 1, 1, none⟩ = some (.int .i64 0) := by simp [World.cell?, B1]
    have y2 : w1.cell? ⟨w.heap.size + 1, 2, none⟩ = some (.int .i64 0) := by simp [World.cell?, B1]
    refine bodyPost_ret (v := .tuple #[PlV 0 0 0, .bool false]) (by simp [results, Tryz.results146, go_sem, y0, y1, y2]) rfl ⟨rfl, Touch.below ?_⟩
    have HT := Lib.hid (Touch.trans (S := nob) (show Touch nob w _ from (((Touch.refl nob w).alloc _).alloc _)) (Touch.of_below hb))
    repeat (first | with_reducible exact HT.out | refine Touch.setCell ?_ (.inr (by simp)) _)
  cases hi : isCls k
  · have hF : fdOk c0 c1 c2 c3 c4 c5 c6 k a = false := by unfold fdOk; rw [hk, hi]; rfl
    rw [hF]
    have HK := Lib.hid hk
    have HI := Lib.hid hi
    clear hk hF hi
    go_enter Tryz.func146, Tryz.ntmps146
    go_wp2_with (first | (go_at_call 145; refine (addr_Block c0 c1 c2 c3 c4 c5 c6 a _ (HL.out.touch (S := nob) (by (repeat (first | with_reducible exact Touch.refl _ _ | with_reducible assumption | with_reducible apply Touch.alloc | with_reducible apply Touch.drewN | with_reducible apply Touch.drew | with_reducible refine Touch.setCell ?_ (.inr (by first | omega | (simp; done) | (simp; omega))) _))) (fun x => x))).mono ?_; rintro e w1 ⟨rfl, hb⟩; rw [HK.out]; simp only [ifB]; obtain ⟨hcc, hff⟩ := bcell hb) | (go_at_call 118; refine (class_Is _ _).mono ?_; rintro e w2 ⟨rfl, rfl⟩; rw [HI.out]))
    have B1 : w1.heap[w.heap.size + 1]? = some (Obj.cells #[.int .i64 0, .int .i64 0, .int .i64 0] 169) := (hb.block (w.heap.size + 1) (by simp only [World.size_alloc]; omega)).trans (alloc2_1 w _ _)
    have y0 : w1.cell? ⟨w.heap.size + 1, 0, none⟩ = some (.int .i64 0) := by simp [World.cell?, B1]
    have y1 : w1.cell? ⟨w.heap.size + 1, 1, none⟩ = some (.int .i64 0) := by simp [World.cell?, B1]
    have y2 : w1.cell? ⟨w.heap.size + 1, 2, none⟩ = some (.int .i64 0) := by simp [World.cell?, B1]
    refine bodyPost_ret (v := .tuple #[PlV 0 0 0, .bool false]) (by simp [results, Tryz.results146, go_sem, y0, y1, y2]) rfl ⟨rfl, Touch.below ?_⟩
    have HT := Lib.hid (Touch.trans (S := nob) (show Touch nob w _ from (((Touch.refl nob w).alloc _).alloc _)) (Touch.of_below hb))
    repeat (first | with_reducible exact HT.out | refine Touch.setCell ?_ (.inr (by simp)) _)
  have HK := Lib.hid hk
  have HI := Lib.hid hi
  obtain ⟨hc, a0, a1⟩ := blkOk_iff.1 hk
  obtain ⟨⟨u0, v0⟩, ⟨u1, v1⟩, _⟩ := cfgOk_iff.1 hc
  have s0 := clsSize_lo hi
  have s1 := (clsSize_bd k).2
  have ⟨m0, m1⟩ := mul_bd (a := c0) (b := c1) (A := 4096) (B := 256) (by omega) (by omega) (by omega) (by omega)
  have q0 : 0 ≤ (a - 1) / c1 := Int.ediv_nonneg (by omega) (by omega)
  have q1 : (a - 1) / c1 ≤ a - 1 := Int.ediv_le_self _ (by omega)
  have q2 : 0 ≤ (a - 1) / c1 * c1 := Int.mul_nonneg q0 (by omega)
  have q3 : (a - 1) / c1 * c1 ≤ a - 1 := Int.ediv_mul_le _ (by omega)
  have q4 : a - 1 < ((a - 1) / c1 + 1) * c1 := Int.lt_ediv_add_one_mul_self _ (by omega)
  rw [Int.add_mul, Int.one_mul] at q4
  have HF := Lib.hid (show fdOk c0 c1 c2 c3 c4 c5 c6 k a = decide ((a - 1 - (a - 1) / c1 * c1) / clsSize k < perBlock c1 k) by unfold fdOk; rw [hk, hi]; rfl)
  obtain ⟨q, hq⟩ : ∃ q, (a - 1) / c1 = q := ⟨_, rfl⟩
  have HQ := Lib.hid hq
  rw [hq] at q0 q1 q2 q3 q4 HF
  have l0 : 0 ≤ a - 1 - q * c1 := by omega
  have l1 : a - 1 - q * c1 < c1 := by omega
  have d0 : 0 ≤ (a - 1 - q * c1) / clsSize k := Int.ediv_nonneg l0 (by omega)
  have d1 : (a - 1 - q * c1) / clsSize k ≤ a - 1 - q * c1 := Int.ediv_le_self _ l0
  have r0 : 0 ≤ (a - 1 - q * c1) % clsSize k := Int.emod_nonneg _ (by omega)
  have r1 : (a - 1 - q * c1) % clsSize k < clsSize k := Int.emod_lt_of_pos _ (by omega)
  have hdd : Int.tdiv (a - 1 - q * c1) (clsSize k) = (a - 1 - q * c1) / clsSize k := Int.tdiv_eq_ediv_of_nonneg l0
  have hmm : Int.tmod (a - 1 - q * c1) (clsSize k) = (a - 1 - q * c1) % clsSize k := Int.tmod_eq_emod_of_nonneg l0
  clear hk hi hc hq
  obtain ⟨d, hd⟩ : ∃ d, (a - 1 - q * c1) / clsSize k = d := ⟨_, rfl⟩
  obtain ⟨r, hr⟩ : ∃ r, (a - 1 - q * c1) % clsSize k = r := ⟨_, rfl⟩
  have WD : Hid (IntKind.i64.wrap d = d) := by show IntKind.i64.wrap d = d; exact IntWalk.i64_in _ (by omega)
  have HV : Hid (∀ b, fdV c1 k a b = match b with | true => PlV q d r | false => PlV 0 0 0) := by intro b; show fdV c1 k a b = _; cases b; rfl; unfold fdV; rw [HQ.out, hd, hr]
  have HD := Lib.hid hd
  rw [hd] at d0 d1 HF hdd
  rw [hr] at r0 r1 hmm
  have ne : clsSize k ≠ 0 := by omega
  obtain ⟨f, hf⟩ : ∃ f, decide (d < perBlock c1 k) = f := ⟨_, rfl⟩
  have HF2 := Lib.hid (HF.out.trans hf)
  rw [HF2.out]
  have HF3 := Lib.hid hf
  clear hf
  go_enter Tryz.func146, Tryz.ntmps146
  go_wp2_with (first | (go_at_call 145; refine (addr_Block c0 c1 c2 c3 c4 c5 c6 a _ (HL.out.touch (S := nob) (by (repeat (first | with_reducible exact Touch.refl _ _ | with_reducible assumption | with_reducible apply Touch.alloc | with_reducible apply Touch.drewN | with_reducible apply Touch.drew | with_reducible refine Touch.setCell ?_ (.inr (by first | omega | (simp; done) | (simp; omega))) _))) (fun x => x))).mono ?_; rintro e w1 ⟨rfl, hb⟩; rw [HK.out]; simp only [ifB, HQ.out]; obtain ⟨hcc, hff⟩ := bcell hb) | (go_at_call 118; refine (class_Is _ _).mono ?_; rintro e w2 ⟨rfl, rfl⟩; rw [HI.out]))
  have HT1 : Hid (Touch nob w w1) := Touch.trans (show Touch nob w _ from (((Touch.refl nob w).alloc _).alloc _)) (Touch.of_below hb)
  have B0 : w1.heap[w.heap.size]? = some (Obj.cells (CfgRow c0 c1 c2 c3 c4 c5 c6) 23) := (hb.block w.heap.size (by simp only [World.size_alloc]; omega)).trans ((alloc2_0 w _ _).trans rfl)
  have B1 : w1.heap[w.heap.size + 1]? = some (Obj.cells #[.int .i64 0, .int .i64 0, .int .i64 0] 169) := (hb.block (w.heap.size + 1) (by simp only [World.size_alloc]; omega)).trans (alloc2_1 w _ _)
  have HBB := Lib.hid (And.intro B0 B1)
  clear B0 B1 hd hr
  go_region_with (first | (go_at_call 143; refine (class_Size _ _ (HZ.out.touch (S := nob) (by have hT1 := HT1.out; (repeat (first | with_reducible exact Touch.refl _ _ | with_reducible assumption | with_reducible apply Touch.alloc | with_reducible apply Touch.drewN | with_reducible apply Touch.drew | with_reducible refine Touch.setCell ?_ (.inr (by first | omega | (simp; done) | (simp; omega))) _))) (fun h => h))).mono ?_; rintro e w9 ⟨rfl, rfl⟩))
  all_goals
    rw [WD.out]
    obtain ⟨W, hW⟩ : ∃ W, W = (w1.alloc (Obj.cells #[.int .i64 q, .int .i64 d, .int .i64 r] 169)).drew := ⟨_, rfl⟩
    rw [← hW]
    have hT : Touch nob w1 W := by rw [hW]; exact ((Touch.refl _ _).alloc _).drew
    have hp : W.heap[w1.heap.size]? = some (Obj.cells #[.int .i64 q, .int .i64 d, .int .i64 r] 169) := by rw [hW]; exact World.alloc_heap_new _ _
    have hB0 := (hT.block _ (Array.getElem?_eq_some_iff.1 HBB.out.1).1 (fun x => x)).trans HBB.out.1
    have hB1 := (hT.block _ (Array.getElem?_eq_some_iff.1 HBB.out.2).1 (fun x => x)).trans HBB.out.2
    have HTW := Lib.hid (HT1.out.trans hT)
    have p0 : W.cell? ⟨w1.heap.size, 0, none⟩ = some (.int .i64 q) := by simp [World.cell?, hp]
    have p1 : W.cell? ⟨w1.heap.size, 1, none⟩ = some (.int .i64 d) := by simp [World.cell?, hp]
    have p2 : W.cell? ⟨w1.heap.size, 2, none⟩ = some (.int .i64 r) := by simp [World.cell?, hp]
    have z1 : W.cell? ⟨w.heap.size, 1, none⟩ = some (.int .i64 c1) := by simp [World.cell?, hB0]
    have y0 : W.cell? ⟨w.heap.size + 1, 0, none⟩ = some (.int .i64 0) := by simp [World.cell?, hB1]
    have y1 : W.cell? ⟨w.heap.size + 1, 1, none⟩ = some (.int .i64 0) := by simp [World.cell?, hB1]
    have y2 : W.cell? ⟨w.heap.size + 1, 2, none⟩ = some (.int .i64 0) := by simp [World.cell?, hB1]
    have g0 : W.frozen? ⟨w.heap.size + 1, 0, none⟩ = false := by simp [World.frozen?, hB1]
    have g1 : W.frozen? ⟨w.heap.size + 1, 1, none⟩ = false := by simp [World.frozen?, hB1]
    have g2 : W.frozen? ⟨w.heap.size + 1, 2, none⟩ = false := by simp [World.frozen?, hB1]
    have HS1 : Hid (∀ n, Sizes (W.drewN n)) := fun n => HZ.out.touch (S := nob) (HTW.out.drewN n) (fun h => h)
    clear hW hp hB0 hB1 hT hcc hff hb
    cases f
    · have hlt : perBlock c1 k ≤ d := by have := HF3.out; simpa using this
      go_wp2_with fail
      go_quiet ((go_at_call 152; exact Calls.quiet_of_same ((class_PerBlock _ _ _ (HS1.out _)).mono fun _ _ h => ⟨h.1, h.2.symm⟩)))
      go_wp2
      refine bodyPost_ret (v := .tuple #[PlV 0 0 0, .bool false]) (by simp [results, Tryz.results146, go_sem, y0, y1, y2]) rfl ⟨by rw [HV.out], Touch.below ?_⟩
      repeat (first | with_reducible exact HTW.out | with_reducible apply Touch.drewN | refine Touch.setCell ?_ (.inr (by simp)) _)
    · have hlt : d < perBlock c1 k := by have := HF3.out; simpa using this
      go_wp2_with fail
      go_quiet ((go_at_call 152; exact Calls.quiet_of_same ((class_PerBlock _ _ _ (HS1.out _)).mono fun _ _ h => ⟨h.1, h.2.symm⟩)))
      go_wp2
      refine bodyPost_ret (v := .tuple #[PlV q d r, .bool true]) (by simp [results, Tryz.results146, go_sem, y0, y1, y2]) rfl ⟨by rw [HV.out], Touch.below ?_⟩
      repeat (first | with_reducible exact HTW.out | with_reducible apply Touch.drewN | refine Touch.setCell ?_ (.inr (by simp)) _)
theorem pl_where {c0 c1 c2 c3 c4 c5 c6 k b s x : Int} (h : plOk c0 c1 c2 c3 c4 c5 c6 k b s x = true) : (plA c1 k b s x - 1) / c1 = b ∧ (plA c1 k b s x - 1 - b * c1) / clsSize k = s ∧ (plA c1 k b s x - 1 - b * c1) % clsSize k = x ∧ blkOk c0 c1 c2 c3 c4 c5 c6 (plA c1 k b s x) = true := by
  obtain ⟨⟨m0, m1⟩, ⟨m2, m3⟩, m4⟩ := pl_bd h
  obtain ⟨hc, hi, ⟨b0, b1⟩, ⟨s0, s1⟩, x0, x1⟩ := plOk_iff.1 h
  obtain ⟨⟨u0, v0⟩, ⟨u1, v1⟩, _⟩ := cfgOk_iff.1 hc
  have z0 := clsSize_lo hi
  refine ⟨?_, ?_, ?_, ?_⟩
  · rw [show plA c1 k b s x - 1 = (s * clsSize k + x) + b * c1 by unfold plA; omega, Int.add_mul_ediv_right _ _ (by omega), Int.ediv_eq_zero_of_lt (by omega) (by omega)]; omega
  · rw [show plA c1 k b s x - 1 - b * c1 = x + s * clsSize k by unfold plA; omega, Int.add_mul_ediv_right _ _ (by omega), Int.ediv_eq_zero_of_lt x0 x1]; omega
  · rw [show plA c1 k b s x - 1 - b * c1 = x + s * clsSize k by unfold plA; omega, Int.add_mul_emod_self_right, Int.emod_eq_of_lt x0 x1]
  · exact blkOk_iff.2 ⟨hc, by unfold plA; omega, by unfold plA; omega⟩
theorem pl_inj {c0 c1 c2 c3 c4 c5 c6 k b s x b' s' x' : Int} (h : plOk c0 c1 c2 c3 c4 c5 c6 k b s x = true) (h' : plOk c0 c1 c2 c3 c4 c5 c6 k b' s' x' = true) :
    (plA c1 k b s x == plA c1 k b' s' x') = (b == b' && (s == s' && x == x')) := by
  obtain ⟨e1, e2, e3, _⟩ := pl_where h
  obtain ⟨f1, f2, f3, _⟩ := pl_where h'
  rw [Bool.eq_iff_iff]
  simp only [beq_iff_eq, Bool.and_eq_true]
  constructor
  · intro e
    have hb : b = b' := by rw [← e1, ← f1, e]
    subst hb
    exact ⟨rfl, by rw [← e2, ← f2, e], by rw [← e3, ← f3, e]⟩
  · rintro ⟨rfl, rfl, rfl⟩; rfl
end Go.Proofs.YtflhjbmoncbomaaGreatDoor
namespace Go.Proofs.YtflhjbmoncbomaaGreatDoor
open Go.RowKit Go.Sort

theorem pl_box {W : World} {b : Nat} {t : TypeId} {x y z : Int} (h : W.heap[b]? = some (Obj.cells #[.int .i64 x, .int .i64 y, .int .i64 z] t)) {w' : World} (ht : Touch nob W w') :
    w'.cell? ⟨b, 0, none⟩ = some (.int .i64 x) ∧ w'.cell? ⟨b, 1, none⟩ = some (.int .i64 y) ∧ w'.cell? ⟨b, 2, none⟩ = some (.int .i64 z) := by
  have hb := (Array.getElem?_eq_some_iff.1 h).1
  have e := (ht.block b hb (fun x => x)).trans h
  simp [World.cell?, e]
theorem same_regrown {f : FuncId} {args : Array Value} {v : Value} {W : World} (h : ∀ w, Calls Tryz.prog f args w fun e w' => e = .returned v ∧ w = w') (d : Nat) (os : Array Obj) :
    Calls Tryz.prog f args (grow (redrawn W d) os) fun e w'' => e = .returned v ∧ ∃ p : Regrown, w'' = grow (redrawn W p.d) p.os :=
  (h _).mono fun _ _ h => ⟨h.1, ⟨⟨d, os⟩, h.2.symm⟩⟩

set_option maxHeartbeats 4000000 in
theorem ref04_Of (c0 c1 c2 c3 c4 c5 c6 k b s x : Int) (w : World) :
    Calls Tryz.prog 110 #[CfgV c0 c1 c2 c3 c4 c5 c6, .int .i64 k, PlV b s x] w fun e w' => e = .returned (.int .i64 (ifB (plOk c0 c1 c2 c3 c4 c5 c6 k b s x) (plA c1 k b s x))) ∧ Below w.heap.size w w' := by
  go_enter Tryz.func110, Tryz.ntmps110
  go_wp2_with fail
  obtain ⟨W, hW⟩ : ∃ W, W = (w.alloc (Obj.cells (CfgRow c0 c1 c2 c3 c4 c5 c6) 23)).alloc (Obj.cells #[.int .i64 b, .int .i64 s, .int .i64 x] 148) := ⟨_, rfl⟩
  obtain ⟨n, hn⟩ : ∃ n, n = w.heap.size := ⟨_, rfl⟩
  rw [← hW, ← hn]
  have hr : W.heap[n]? = some (Obj.cells (CfgRow c0 c1 c2 c3 c4 c5 c6) 23) := by rw [hW, hn]; exact (alloc2_0 w _ _).trans rfl
  have hr2 : W.heap[n + 1]? = some (Obj.cells #[.int .i64 b, .int .i64 s, .int .i64 x] 148) := by rw [hW, hn]; exact alloc2_1 w _ _
  have HT : Hid (Touch nob w W) := by show Touch nob w W; rw [hW]; exact ((Touch.refl _ _).alloc _).alloc _
  have HB := Lib.hid (fun w' ht => cfg_box hr (w' := w') ht)
  have HB2 := Lib.hid (fun w' ht => pl_box hr2 (w' := w') ht)
  obtain ⟨r0, r1, r2, r3, r4, r5, r6⟩ := cfg_box hr (Touch.refl _ _)
  have k0 := cell_regrown r0
  have k1 := cell_regrown r1
  have k2 := cell_regrown r2
  have k3 := cell_regrown r3
  have k4 := cell_regrown r4
  have k5 := cell_regrown r5
  have k6 := cell_regrown r6
  obtain ⟨s0, s1, s2⟩ := pl_box hr2 (Touch.refl _ _)
  have p0 := cell_regrown s0
  have p1 := cell_regrown s1
  have p2 := cell_regrown s2
  have d1 := fun d os => Calls.regrown_of (ref02_Right c0 c1 c2 c3 c4 c5 c6 (grow (redrawn W d) os))
  have d2 := same_regrown (W := W) (ref03_Is k)
  have d3 := same_regrown (W := W) (ref03_Per c1 k)
  have d4 := same_regrown (W := W) (ref03_Size k)
  clear hW hn hr hr2 r0 r1 r2 r3 r4 r5 r6 s0 s1 s2
  cases hk : plOk c0 c1 c2 c3 c4 c5 c6 k b s x
  · have main : (cfgOk c0 c1 c2 c3 c4 c5 c6 = false) ∨ (cfgOk c0 c1 c2 c3 c4 c5 c6 = true ∧ isCls k = false) ∨ (cfgOk c0 c1 c2 c3 c4 c5 c6 = true ∧ isCls k = true ∧ decide (b < 0) = true) ∨ (cfgOk c0 c1 c2 c3 c4 c5 c6 = true ∧ isCls k = true ∧ decide (b < 0) = false ∧ decide (c0 ≤ b) = true) ∨ (cfgOk c0 c1 c2 c3 c4 c5 c6 = true ∧ isCls k = true ∧ decide (b < 0) = false ∧ decide (c0 ≤ b) = false ∧ decide (s < 0) = true) ∨ (cfgOk c0 c1 c2 c3 c4 c5 c6 = true ∧ isCls k = true ∧ decide (b < 0) = false ∧ decide (c0 ≤ b) = false ∧ decide (s < 0) = false ∧ decide (perBlock c1 k ≤ s) = true) ∨ (cfgOk c0 c1 c2 c3 c4 c5 c6 = true ∧ isCls k = true ∧ decide (b < 0) = false ∧ decide (c0 ≤ b) = false ∧ decide (s < 0) = false ∧ decide (perBlock c1 k ≤ s) = false ∧ decide (x < 0) = true) ∨ (cfgOk c0 c1 c2 c3 c4 c5 c6 = true ∧ isCls k = true ∧ decide (b < 0) = false ∧ decide (c0 ≤ b) = false ∧ decide (s < 0) = false ∧ decide (perBlock c1 k ≤ s) = false ∧ decide (x < 0) = false ∧ decide (clsSize k ≤ x) = true) := by
      cases hc : cfgOk c0 c1 c2 c3 c4 c5 c6
      · exact .inl rfl
      · cases hi : isCls k
        · exact .inr (.inl ⟨rfl, rfl⟩)
        · have hx : ¬ ((0 ≤ b ∧ b < c0) ∧ (0 ≤ s ∧ s < perBlock c1 k) ∧ 0 ≤ x ∧ x < clsSize k) := fun h => by
            have := plOk_iff.2 ⟨hc, hi, h⟩
            rw [hk] at this; exact absurd this (by decide)
          simp only [decide_eq_true_eq, decide_eq_false_iff_not, true_and]
          refine .inr (.inr ?_)
          omega
    have HK := Lib.hid hk
    clear hk
    rcases main with h1 | ⟨h1, h2⟩ | ⟨h1, h2, h3⟩ | ⟨h1, h2, h3, h4⟩ | ⟨h1, h2, h3, h4, h5⟩ | ⟨h1, h2, h3, h4, h5, h6⟩ | ⟨h1, h2, h3, h4, h5, h6, h7⟩ | ⟨h1, h2, h3, h4, h5, h6, h7, h8⟩
    all_goals
      rw [h1] at d1
      try rw [h2] at d2
      clear h1
      try clear h2
      refine wp_region_quiet_below (by kernel_rfl) (by kernel_rfl) ?_
      repeat (go_big_quiet_step (first | (go_at_call 35; exact d1 _ _) | (go_at_call 108; exact d2 _ _) | (go_at_call 109; exact d3 _ _) | (go_at_call 111; exact d4 _ _)))
      refine wpQuiet_nil ?_
      intro W2 hw'
      obtain ⟨⟨dq, osq⟩, hw''⟩ := hw'
      simp only at hw''
      have hT2 : Touch nob W W2 := by rw [hw'']; exact Touch.of_below (below_regrown W dq osq)
      clear hw'' d1 d2 d3 d4 k0 k1 k2 k3 k4 k5 k6 p0 p1 p2
      go_wp2
      go_ret
      exact ⟨ret_int (by rw [HK.out]; rfl), (HT.out.trans hT2).below⟩
  · obtain ⟨hc, hi, ⟨b0, b1⟩, ⟨s0, s1⟩, x0, x1⟩ := plOk_iff.1 hk
    obtain ⟨⟨m0, m1⟩, ⟨m2, m3⟩, m4⟩ := pl_bd hk
    obtain ⟨⟨u0, v0⟩, ⟨u1, v1⟩, _⟩ := cfgOk_iff.1 hc
    have q1 := (clsSize_bd k).2
    rw [hc] at d1
    rw [hi] at d2
    have e3 : decide (b < 0) = false := by simp; omega
    have e4 : decide (c0 ≤ b) = false := by simp; omega
    have e5 : decide (s < 0) = false := by simp; omega
    have e6 : decide (perBlock c1 k ≤ s) = false := by simp; omega
    have e7 : decide (x < 0) = false := by simp; omega
    have e8 : decide (clsSize k ≤ x) = false := by simp; omega
    have HK := Lib.hid hk
    clear hc hi hk
    refine wp_region_quiet_below (by kernel_rfl) (by kernel_rfl) ?_
    repeat (go_big_quiet_step (first | (go_at_call 35; exact d1 _ _) | (go_at_call 108; exact d2 _ _) | (go_at_call 109; exact d3 _ _) | (go_at_call 111; exact d4 _ _)))
    refine wpQuiet_nil ?_
    intro W2 hw'
    obtain ⟨⟨dq, osq⟩, hw''⟩ := hw'
    simp only at hw''
    have hT2 : Touch nob W W2 := by rw [hw'']; exact Touch.of_below (below_regrown W dq osq)
    clear hw'' d1 d2 d3 d4 k0 k1 k2 k3 k4 k5 k6 p0 p1 p2
    obtain ⟨k0, k1, k2, k3, k4, k5, k6⟩ := HB.out _ hT2
    obtain ⟨p0, p1, p2⟩ := HB2.out _ hT2
    go_wp2_with fail
    go_quiet ((go_at_call 111; exact Calls.quiet_of_same ((ref03_Size _ _).mono fun _ _ h => ⟨h.1, h.2.symm⟩)))
    go_wp2
    go_ret
    exact ⟨ret_int (by rw [HK.out]; rfl), ((HT.out.trans hT2).drewN nq).below⟩
end Go.Proofs.YtflhjbmoncbomaaGreatDoor
