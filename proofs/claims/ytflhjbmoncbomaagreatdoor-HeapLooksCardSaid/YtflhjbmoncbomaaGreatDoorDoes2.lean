/- The heap's law: begin a slot, and lay a cell, done to both: walked. Conditions: what Two says. -/
import Derived.Test.YtflhjbmoncbomaaGreatDoorDoes
namespace Go.Proofs.YtflhjbmoncbomaaGreatDoor
open Go.RowKit

variable {W w w' w2 w3 : World} {O O' T : Nat → Prop} {m qx b0 : Nat} {c : Cf} {A : HA} {S S' : HS} {H H' : Nat → List Nat} {k a b x : Int}
theorem Rv.heads13 {n : Nat} (h : Rv w O m qx c n S H) : ∃ cx, w.cell? ⟨m, 13, none⟩ = some (.slice (some ⟨qx, 0, none⟩) S.x.length cx) ∧ S.x.length ≤ cx ∧ w.cell? ⟨m, 0, none⟩ = some (.int .i64 c.c0) ∧ w.cell? ⟨m, 1, none⟩ = some (.int .i64 c.c1) ∧ ∀ i, i < S.x.length → w.cell? ⟨qx, i, none⟩ = some (.int .i64 (S.x.getD i 0)) ∧ w.frozen? ⟨qx, i, none⟩ = false := by
  obtain ⟨⟨R, ⟨sv, v, cx, hb⟩, hs⟩, _⟩ := h
  have hbx := hb.box
  obtain ⟨-, -, -, -, -, -, d13, -⟩ := hb.boxes
  rw [hs.x] at d13
  have hr := hb.xs
  rw [hs.x] at hr
  obtain ⟨_, _, _, hcx, _⟩ := id hr
  exact ⟨cx, d13, by simpa using hcx, by simp [World.cell?, hbx], by simp [World.cell?, hbx], fun i hi => ⟨int_cell hr hi, hr.free i⟩⟩
theorem Rv.mq {n : Nat} (h : Rv w O m qx c n S H) : m ≠ qx ∧ O qx := by
  obtain ⟨⟨R, ⟨sv, v, cx, hb⟩, hs⟩, _⟩ := h
  refine ⟨?_, hb.ox⟩
  rintro rfl
  obtain ⟨cur', hx, _⟩ := hb.xs
  have := hx.symm.trans hb.box
  simp at this
set_option maxRecDepth 20000 in
set_option maxHeartbeats 1000000 in
theorem does_8_ok (h : Two W w A c S H O m qx) (hgood0 : (0 ≤ a ∧ a < (S.x.length : Int)) ∧ (0 ≤ x ∧ x ≤ (S.s.ws.length : Int))) :
    Calls Tryz.prog 16 #[.pointer (some ⟨A.h, 0, none⟩), .pointer (some ⟨m, 0, none⟩), .agg #[.int .u8 8, .int .i64 a, .int .i64 b, .int .i64 x]] w fun e w' => e = .returned (.bool true) ∧ Dn W A c S m qx w' := by
  have HM := Lib.hid (deed_start (k := 8) (a := a) (b := b) (x := x) h)
  have HI := Lib.hid h
  have hzz : c.c0 * c.c1 = (S.s.ws.length : Int) := h.rv.inv.len.symm
  have hz4 := h.rv.hz
  have hc1 := c1_bd h.rv.inv.ok
  have hc0 := (cfgOk_iff.1 h.rv.inv.ok).1
  obtain ⟨z, hz⟩ : ∃ z, S.s.ws.length = z := ⟨_, rfl⟩
  obtain ⟨NX, hNX⟩ : ∃ NX, S.x.length = NX := ⟨_, rfl⟩
  have hgood := hgood0
  rw [hz, hNX] at hgood
  rw [hz] at hzz hz4
  have HN := Lib.hid (And.intro hz hNX)
  clear h hz hNX hgood0
  go_enter Tryz.func16, Tryz.ntmps16
  go_wp2_with fail
  obtain ⟨W1, hW1⟩ : ∃ W1, W1 = w.alloc (Obj.cells #[.int .u8 8, .int .i64 a, .int .i64 b, .int .i64 x] 36) := ⟨_, rfl⟩
  obtain ⟨b0, hb0⟩ : ∃ b0, b0 = w.heap.size := ⟨_, rfl⟩
  rw [← hW1, ← hb0] at HM ⊢
  clear hW1 hb0
  obtain ⟨k1, k2, k3⟩ := HM.out.bk.cells
  have hset := fun (w : World) (h : HpI W w A c S H) => hp_SetCellD a x h
  obtain ⟨i, rfl⟩ := Int.eq_ofNat_of_zero_le hgood.1.1
  have hiN : i < NX := by have := hgood.1.2; omega
  have eE : S.setE i x = 0 := by
    unfold HS.setE
    rw [if_pos (show S.celB i from ⟨by omega, by rw [HN.out.2]; exact hgood.1.2⟩), if_pos (by rw [HN.out.1]; exact hgood.2)]
  have eS : S.setS i x = { S with x := S.x.set i x } := by
    unfold HS.setS
    rw [eE, if_pos rfl, Int.toNat_natCast]
  simp only [eE, eS] at hset
  have HC := Lib.hid hset
  have HE := Lib.hid hiN
  have g1 : ¬ (i : Int) < 0 := by omega
  have g2 : ¬ (i : Int) ≥ (NX : Int) := by omega
  have g3 : ¬ x < 0 := by omega
  have g4 : ¬ x > (z : Int) := by omega
  clear hset eE eS hgood
  go_wp2_with (go_at_call 45; fail)
  refine (HC.out _ HM.out.hp).mono ?_
  rintro e w2 ⟨rfl, t2, hp2⟩
  have HQ1 := Lib.hid (HM.out.heap t2 hp2)
  clear t2 hp2 k1 k2 k3
  obtain ⟨k1, k2, k3⟩ := HQ1.out.bk.cells
  obtain ⟨cx, d13, hcx, d0, d1, hcl⟩ := HQ1.out.rv.heads13
  obtain ⟨e0, f0⟩ := hcl i (by rw [HN.out.2]; exact HE.out)
  rw [HN.out.2] at d13 hcx
  clear hcl
  have hw1 : IntKind.i64.wrap (c.c0 * c.c1) = z := by rw [hzz]; exact IntWalk.i64_in _ (by omega)
  have hwz : IntKind.i64.wrap (z : Int) = z := IntWalk.i64_in _ (by omega)
  have hwx : ¬ (x < 0 ∨ (z : Int) < x) := by omega
  go_wp2_with fail
  go_quiet (fail)
  go_wp2_with fail
  go_quiet (fail)
  go_wp2_with fail
  generalize hw : World.drewN (World.drewN w2 _) _ = w5
  have t5 : Touch nob w2 w5 := by rw [← hw]; exact ((Touch.refl _ _).drewN _).drewN _
  have HQ5 := Lib.hid (HQ1.out.old t5)
  clear hw t5 k1 k2 k3 d13 hcx d0 d1 e0 f0
  obtain ⟨k1, k2, k3⟩ := HQ5.out.bk.cells
  obtain ⟨cx, d13, hcx, -, -, hcl⟩ := HQ5.out.rv.heads13
  obtain ⟨e0, f0⟩ := hcl i (by rw [HN.out.2]; exact HE.out)
  rw [HN.out.2] at d13 hcx
  have hlN : (i : Int) < (NX : Int) := by omega
  clear hcl
  have e0' : w5.drew.cell? ⟨qx, i, none⟩ = some (.int .i64 (S.x.getD i 0)) := e0
  have f0' : w5.drew.frozen? ⟨qx, i, none⟩ = false := f0
  have HS0 : Hid (w5.drew.cell? ⟨b0, 1, none⟩ = some (.int .i64 i) ∧ w5.drew.cell? ⟨b0, 3, none⟩ = some (.int .i64 x) ∧ w5.drew.cell? ⟨m, 13, none⟩ = some (.slice (some ⟨qx, 0, none⟩) NX cx)) := ⟨k1, k3, d13⟩
  obtain ⟨hmq, hOq⟩ := HQ5.out.rv.mq
  have hbq : b0 ≠ qx := fun e => HQ5.out.nO (e ▸ hOq)
  have hts := touch_set w5 qx i (.int .i64 x)
  have HS1 : Hid ((w5.setCell ⟨qx, i, none⟩ (.int .i64 x)).drew.cell? ⟨b0, 1, none⟩ = some (.int .i64 i) ∧ (w5.setCell ⟨qx, i, none⟩ (.int .i64 x)).drew.cell? ⟨b0, 3, none⟩ = some (.int .i64 x) ∧ (w5.setCell ⟨qx, i, none⟩ (.int .i64 x)).drew.cell? ⟨m, 13, none⟩ = some (.slice (some ⟨qx, 0, none⟩) NX cx)) :=
  ⟨(hts.cell (cell_lt k1) hbq).trans k1, (hts.cell (cell_lt k3) hbq).trans k3, (hts.cell (cell_lt d13) hmq).trans d13⟩
  have HR6 := Lib.hid (HQ5.out.rv.setx i x)
  have H6 := Lib.hid (HQ5.out.ref HR6.out.2 (Sub.refl _ _) HR6.out.1)
  clear hmq hOq hbq hts
  go_region_held3 (fun w1 => w1.cell? ⟨b0, 1, none⟩ = some (.int .i64 i) ∧ w1.cell? ⟨b0, 3, none⟩ = some (.int .i64 x) ∧ w1.cell? ⟨m, 13, none⟩ = some (.slice (some ⟨qx, 0, none⟩) NX cx)) (first | exact HS1.out | exact HS0.out) (fail)
  rename_i hheld
  clear hheld
  go_wp2
  go_ret
  exact ⟨rfl, _, _, O, H6.out.1.old (Touch.drew (Touch.refl _ _)), List.length_set⟩
set_option maxRecDepth 20000 in
set_option maxHeartbeats 4000000 in
theorem does_8_no (h : Two W w A c S H O m qx) (hgood0 : ¬ ((0 ≤ a ∧ a < (S.x.length : Int)) ∧ (0 ≤ x ∧ x ≤ (S.s.ws.length : Int)))) :
    Calls Tryz.prog 16 #[.pointer (some ⟨A.h, 0, none⟩), .pointer (some ⟨m, 0, none⟩), .agg #[.int .u8 8, .int .i64 a, .int .i64 b, .int .i64 x]] w fun e w' => e = .returned (.bool true) ∧ Dn W A c S m qx w' := by
  have HM := Lib.hid (deed_start (k := 8) (a := a) (b := b) (x := x) h)
  have HI := Lib.hid h
  have hzz : c.c0 * c.c1 = (S.s.ws.length : Int) := h.rv.inv.len.symm
  have hz4 := h.rv.hz
  have hc1 := c1_bd h.rv.inv.ok
  have hc0 := (cfgOk_iff.1 h.rv.inv.ok).1
  obtain ⟨z, hz⟩ : ∃ z, S.s.ws.length = z := ⟨_, rfl⟩
  obtain ⟨NX, hNX⟩ : ∃ NX, S.x.length = NX := ⟨_, rfl⟩
  have hgood := hgood0
  rw [hz, hNX] at hgood
  rw [hz] at hzz hz4
  have HN := Lib.hid (And.intro hz hNX)
  clear h hz hNX hgood0
  go_enter Tryz.func16, Tryz.ntmps16
  go_wp2_with fail
  obtain ⟨W1, hW1⟩ : ∃ W1, W1 = w.alloc (Obj.cells #[.int .u8 8, .int .i64 a, .int .i64 b, .int .i64 x] 36) := ⟨_, rfl⟩
  obtain ⟨b0, hb0⟩ : ∃ b0, b0 = w.heap.size := ⟨_, rfl⟩
  rw [← hW1, ← hb0] at HM ⊢
  clear hW1 hb0
  obtain ⟨k1, k2, k3⟩ := HM.out.bk.cells
  have hset := fun (w : World) (h : HpI W w A c S H) => hp_SetCellD a x h
  have hno : ¬ (0 ≤ a ∧ a < (NX : Int)) ∨ ((0 ≤ a ∧ a < (NX : Int)) ∧ ¬ (0 ≤ x ∧ x ≤ (z : Int))) := by omega
  have hS : S.setS a x = S := by
    unfold HS.setS
    rw [if_neg]
    unfold HS.setE
    rcases hno with h | ⟨h, h'⟩
    · rw [if_neg (fun (y : S.celB a) => h (by unfold HS.celB at y; rw [HN.out.2] at y; exact y))]
      decide
    · rw [if_pos (show S.celB a from by unfold HS.celB; rw [HN.out.2]; exact h), if_neg (by rw [HN.out.1]; exact h')]
      decide
  have hE : S.setE a x = if 0 ≤ a ∧ a < (NX : Int) then 4 else 9 := by
    unfold HS.setE
    rcases hno with h | ⟨h, h'⟩
    · rw [if_neg (fun (y : S.celB a) => h (by unfold HS.celB at y; rw [HN.out.2] at y; exact y)), if_neg h]
    · rw [if_pos (show S.celB a from by unfold HS.celB; rw [HN.out.2]; exact h), if_neg (by rw [HN.out.1]; exact h'), if_pos h]
  simp only [hS, hE] at hset
  have hwz : IntKind.i64.wrap (z : Int) = z := IntWalk.i64_in _ (by omega)
  clear hS hE hgood
  have hcs : (a < 0) ∨ (¬ a < 0 ∧ a ≥ (NX : Int)) ∨ ((¬ a < 0 ∧ ¬ a ≥ (NX : Int)) ∧ x < 0) ∨ ((¬ a < 0 ∧ ¬ a ≥ (NX : Int)) ∧ ¬ x < 0 ∧ x > (z : Int)) := by omega
  clear hno
  rcases hcs with g1 | ⟨g1, g2⟩ | ⟨⟨g1, g2⟩, g3⟩ | ⟨⟨g1, g2⟩, g3, g4⟩
  all_goals
    first
      | rw [if_neg (show ¬ (0 ≤ a ∧ a < (NX : Int)) by omega)] at hset
      | rw [if_pos (show 0 ≤ a ∧ a < (NX : Int) by omega)] at hset
    have HC := Lib.hid hset
    clear hset
    go_wp2_with (go_at_call 45; fail)
    refine (HC.out _ HM.out.hp).mono ?_
    rintro e w2 ⟨rfl, t2, hp2⟩
    have HQ1 := Lib.hid (HM.out.heap t2 hp2)
    have HQ2 := Lib.hid (HQ1.out.ref (Touch.refl _ _) (Sub.refl _ _) HQ1.out.rv)
    clear t2 hp2 k1 k2 k3
    obtain ⟨k1, k2, k3⟩ := HQ1.out.bk.cells
    obtain ⟨cx, d13, hcx, d0, d1, -⟩ := HQ1.out.rv.heads13
    rw [HN.out.2] at d13 hcx
    have hw1 : IntKind.i64.wrap (c.c0 * c.c1) = z := by rw [hzz]; exact IntWalk.i64_in _ (by omega)
    go_wp2_with fail
    go_quiet (fail)
    go_wp2_with fail
    first
      | (go_quiet (fail); go_wp2_with fail)
      | skip
    go_ret
    exact ⟨rfl, _, _, O, HQ2.out.1.old (by repeat (first | with_reducible exact Touch.refl _ _ | with_reducible apply Touch.drewN)), rfl⟩
theorem does_8 (h : Two W w A c S H O m qx) :
    Calls Tryz.prog 16 #[.pointer (some ⟨A.h, 0, none⟩), .pointer (some ⟨m, 0, none⟩), .agg #[.int .u8 8, .int .i64 a, .int .i64 b, .int .i64 x]] w fun e w' => e = .returned (.bool true) ∧ Dn W A c S m qx w' := by
  by_cases hg : (0 ≤ a ∧ a < (S.x.length : Int)) ∧ (0 ≤ x ∧ x ≤ (S.s.ws.length : Int))
  · exact does_8_ok h hg
  · exact does_8_no h hg
end Go.Proofs.YtflhjbmoncbomaaGreatDoor
