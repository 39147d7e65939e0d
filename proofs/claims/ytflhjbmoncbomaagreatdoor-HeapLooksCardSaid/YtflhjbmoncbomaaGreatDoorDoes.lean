/- The heap's law: one deed, done to both: walked. Conditions: what Two says. -/
import Derived.Test.YtflhjbmoncbomaaGreatDoorRv4
namespace Go.Proofs.YtflhjbmoncbomaaGreatDoor
open Go.RowKit

variable {W w w' w2 w3 : World} {O O' T : Nat → Prop} {m qx b0 : Nat} {c : Cf} {A : HA} {S S' : HS} {H H' : Nat → List Nat} {k a b x : Int}
/-- Behind a deed. -/
def Dn (W : World) (A : HA) (c : Cf) (S : HS) (m qx : Nat) (w' : World) : Prop := ∃ S' H' O', Two W w' A c S' H' O' m qx ∧ S'.x.length = S.x.length
/-- Where a deed lies. -/
def Bk (w : World) (b0 : Nat) (k a b x : Int) : Prop := w.heap[b0]? = some (Obj.cells #[.int .u8 k, .int .i64 a, .int .i64 b, .int .i64 x] 36)
theorem Bk.cells (h : Bk w b0 k a b x) : w.cell? ⟨b0, 1, none⟩ = some (.int .i64 a) ∧ w.cell? ⟨b0, 2, none⟩ = some (.int .i64 b) ∧ w.cell? ⟨b0, 3, none⟩ = some (.int .i64 x) := by
  unfold Bk at h
  exact ⟨by simp [World.cell?, h], by simp [World.cell?, h], by simp [World.cell?, h]⟩
/-- The heap's call is done. -/
structure Dm (W w : World) (A : HA) (c : Cf) (S : HS) (H : Nat → List Nat) (S' : HS) (H' : Nat → List Nat) (O : Nat → Prop) (m qx b0 : Nat) (k a b x : Int) : Prop where
  hp : HpI W w A c S' H'
  rv : Rv w O m qx c A.L.n S H
  bk : Bk w b0 k a b x
  ap : ∀ g ∈ A.all, ¬ O g
  hO : ∀ g, O g → W.heap.size ≤ g
  nA : b0 ∉ A.all
  nO : ¬ O b0
theorem Dm.start (h : Two W w A c S H O m qx) (hb : Bk w b0 k a b x) (nA : b0 ∉ A.all) (nO : ¬ O b0) : Dm W w A c S H S H O m qx b0 k a b x := ⟨h.hp, h.rv, hb, h.ap, h.hO, nA, nO⟩
theorem Dm.old (h : Dm W w A c S H S' H' O m qx b0 k a b x) (ht : Touch nob w w2) : Dm W w2 A c S H S' H' O m qx b0 k a b x := ⟨h.hp.old ht, h.rv.old ht, blk_touch h.bk ht (fun x => x), h.ap, h.hO, h.nA, h.nO⟩
theorem Dm.heap {S2 : HS} {H2 : Nat → List Nat} (h : Dm W w A c S H S' H' O m qx b0 k a b x) (ht : Touch (HT A) w w2) (hp : HpI W w2 A c S2 H2) : Dm W w2 A c S H S2 H2 O m qx b0 k a b x :=
  ⟨hp, h.rv.touch ht (fun g hO hA => h.ap g hA hO), blk_touch h.bk ht h.nA, h.ap, h.hO, h.nA, h.nO⟩
theorem Dm.ref (h : Dm W w A c S H S' H' O m qx b0 k a b x) (ht : Touch O w w2) (hs : Sub w O' O) (rv : Rv w2 O' m qx c A.L.n S' H') : Two W w2 A c S' H' O' m qx ∧ Bk w2 b0 k a b x := by
  refine ⟨⟨h.hp.touch (h.hp.at'.base.step ht (fun g hg => .inr (h.hO g hg))) ht h.ap, rv, fun g hg hO => ?_, fun g hg => ?_⟩, blk_touch h.bk ht h.nO⟩
  · rcases hs g hO with y | y
    · exact h.ap g hg y
    · have := h.hp.at'.lt g hg
      omega
  · rcases hs g hg with y | y
    · exact h.hO g y
    · exact Nat.le_trans h.hp.at'.base.size y
theorem deed_start (h : Two W w A c S H O m qx) : Dm W (w.alloc (Obj.cells #[.int .u8 k, .int .i64 a, .int .i64 b, .int .i64 x] 36)) A c S H S H O m qx w.heap.size k a b x := by
  refine Dm.start (h.old ((Touch.refl _ _).alloc _)) (World.alloc_heap_new _ _) (h.hp.at'.aside (Nat.le_refl _)) (fun hO => ?_)
  obtain ⟨⟨R, ⟨_, _, _, hb⟩, _⟩, _⟩ := h.rv
  exact Nat.lt_irrefl _ (hb.lt _ hO)
theorem hp_Paint (a n : Int) (h : HpI W w A c S H) :
    Calls Tryz.prog 38 #[.pointer (some ⟨A.h, 0, none⟩), .int .i64 a, .int .i64 n] w fun e w' => e = .returned (.tuple #[.bool (S.paiV a n), .int .i64 (S.paiE a n)]) ∧ Touch (HT A) w w' ∧ HpI W w' A c (S.paiS a n) H :=
  (heap_Paint a n h.at').mono fun _ _ ⟨g1, g2, g3⟩ => ⟨g1, g2, g3, by
    unfold HS.paiS
    split
    · exact h.inv.same _ S.x
    · exact h.inv, h.laid⟩
theorem RfB.setx {R : Rh} {sv : Value} {v : Nat → Value} {cx : Nat} (h : RfB w O m qx c R sv v cx) (i : Nat) (y : Int) : RfB (w.setCell ⟨qx, i, none⟩ (.int .i64 y)) O m qx c { R with x := R.x.set i y } sv v cx := by
  have ht := touch_set w qx i (.int .i64 y)
  obtain ⟨cur', hx, _⟩ := id h.xs
  have nx : m ≠ qx := by
    rintro rfl
    have := hx.symm.trans h.box
    simp at this
  refine ⟨?_, ?_, owns_touch h.row ht (fun b hb e => ?_), fun k hk => (h.ff k hk).touch ht (fun b hb e => (h.of k hk b hb).2 e), fun s hs => (h.fs s hs).touch ht (fun b hb e => (h.og s hs b hb).2 e), h.om, h.ox, h.os, h.of, h.og, fun b hb => by simpa [World.setCell] using h.lt b hb⟩
  · rw [List.length_set]
    exact blk_touch h.box ht nx
  · rw [List.map_set]
    exact h.xs.set _ _
  · subst e
    obtain ⟨_, ⟨h1, _⟩ | ⟨g, cap, cur, h1, _, hh, _⟩⟩ := h.row
    · rw [h1] at hb; cases hb
    · rw [h1] at hb
      cases hb
      have := hx.symm.trans hh
      simp at this

theorem Rv.setx {n : Nat} (h : Rv w O m qx c n S H) (i : Nat) (y : Int) : Rv (w.setCell ⟨qx, i, none⟩ (.int .i64 y)) O m qx c n { S with x := S.x.set i y } H ∧ Touch O w (w.setCell ⟨qx, i, none⟩ (.int .i64 y)) := by
  obtain ⟨⟨R, ⟨sv, v, cx, hb⟩, hs⟩, hi, tb, hz⟩ := h
  refine ⟨⟨⟨_, ⟨sv, v, cx, hb.setx i y⟩, ⟨hs.ad, fun s hm => ?_, hs.F, by show R.x.set i y = S.x.set i y; rw [hs.x], hs.u⟩⟩, hi.same S.K _, tb, hz⟩, (touch_set _ _ _ _).mono fun b _ e => by rw [e]; exact hb.ox⟩
  have g := hs.ok s hm
  exact ⟨g.k, g.is, g.bg, g.col, g.f, g.b⟩
theorem hp_SetCellD (i v : Int) (h : HpI W w A c S H) :
    Calls Tryz.prog 45 #[.pointer (some ⟨A.h, 0, none⟩), .int .i64 i, .int .i64 v] w fun e w' => e = .returned (.int .i64 (S.setE i v)) ∧ Touch (HT A) w w' ∧ HpI W w' A c (S.setS i v) H :=
  (heap_SetCell i v h.at').mono fun _ _ ⟨g1, g2, g3⟩ => ⟨g1, g2, g3, by
    unfold HS.setS
    split
    · exact h.inv.same S.K _
    · exact h.inv, h.laid⟩
theorem asgL_len (S : HS) (c : Cf) (n : Nat) (k : Int) : (S.asgL c n k).length ≤ 128 := by
  unfold HS.asgL
  split
  · have h := slAt_le (c := c) (ks := S.s.ks ++ [k]) (m := S.s.ks.length)
    unfold slAt at h
    rwa [if_pos (by rw [List.length_append]; simp), getD_snoc] at h
  · exact Nat.zero_le _
theorem putS_x (S : HS) (c : Cf) (a : Int) : (S.putS c a).x = S.x := by unfold HS.putS; split <;> rfl
theorem freS_x' (S : HS) (c : Cf) (a : Int) : (S.freS c a).x = S.x := by
  unfold HS.freS
  split
  · exact putS_x _ _ _
  · rfl
theorem beaS_x (S : HS) (c : Cf) (a n : Int) : (S.beaS c a n).x = S.x := by unfold HS.beaS; split <;> rfl
theorem stS_x (S : HS) (c : Cf) (a f v : Int) : (S.stS c a f v).x = S.x := by unfold HS.stS; split <;> rfl
theorem takS_x (S : HS) (H : Nat → List Nat) (k : Int) : (S.takS H k).x = S.x := by unfold HS.takS; split <;> rfl
theorem asgS_x (S : HS) (n : Nat) (k : Int) : (S.asgS n k).x = S.x := by unfold HS.asgS; split <;> rfl
theorem paiS_x (S : HS) (a n : Int) : (S.paiS a n).x = S.x := by unfold HS.paiS; split <;> rfl
set_option maxRecDepth 20000 in
set_option maxHeartbeats 1000000 in
theorem does_2 (h : Two W w A c S H O m qx) :
    Calls Tryz.prog 16 #[.pointer (some ⟨A.h, 0, none⟩), .pointer (some ⟨m, 0, none⟩), .agg #[.int .u8 2, .int .i64 a, .int .i64 b, .int .i64 x]] w fun e w' => e = .returned (.bool true) ∧ Dn W A c S m qx w' := by
  have HM := Lib.hid (deed_start (k := 2) (a := a) (b := b) (x := x) h)
  have HI := Lib.hid h
  clear h
  go_enter Tryz.func16, Tryz.ntmps16
  go_wp2_with fail
  obtain ⟨W1, hW1⟩ : ∃ W1, W1 = w.alloc (Obj.cells #[.int .u8 2, .int .i64 a, .int .i64 b, .int .i64 x] 36) := ⟨_, rfl⟩
  obtain ⟨b0, hb0⟩ : ∃ b0, b0 = w.heap.size := ⟨_, rfl⟩
  rw [← hW1, ← hb0] at HM ⊢
  clear hW1 hb0
  have HD : Hid (Dm W W1.drew A c S H S H O m qx b0 2 a b x) := HM.out.old (Touch.drew (Touch.refl _ _))
  have hc1 := fun {w : World} (h : HpI W w A c S H) => hp_Put a h
  have hc2 := fun {w : World} (h : Rv w O m qx c A.L.n S H) => rv_Put a h
  obtain ⟨E, hE⟩ : ∃ E, S.putE c a = E := ⟨_, rfl⟩
  simp only [hE] at hc1 hc2
  have HC := Lib.hid (And.intro @hc1 @hc2)
  clear hc1 hc2 hE
  go_region_held3 (fun w1 => w1.cell? ⟨b0, 1, none⟩ = some (.int .i64 a) ∧ w1.cell? ⟨b0, 2, none⟩ = some (.int .i64 b) ∧ w1.cell? ⟨b0, 3, none⟩ = some (.int .i64 x)) (first | exact HQ2.out.2.cells | exact HQ1.out.bk.cells | exact HD.out.bk.cells) (first
    | (go_at_call 64; refine (HC.out.2 HQ1.out.rv).mono ?_; rintro e w3 ⟨rfl, O3, t3, s3, r3⟩; have HQ2 := Lib.hid (HQ1.out.ref t3 s3 r3); clear t3 s3 r3)
    | (go_at_call 40; refine (HC.out.1 HD.out.hp).mono ?_; rintro e w2 ⟨rfl, t2, hp2⟩; have HQ1 := Lib.hid (HD.out.heap t2 hp2); clear t2 hp2))
  rename_i hheld
  clear hheld
  go_wp2
  go_ret
  exact ⟨rfl, _, _, O3, HQ2.out.1, by rw [putS_x]⟩
set_option maxRecDepth 20000 in
set_option maxHeartbeats 1000000 in
theorem does_4 (h : Two W w A c S H O m qx) :
    Calls Tryz.prog 16 #[.pointer (some ⟨A.h, 0, none⟩), .pointer (some ⟨m, 0, none⟩), .agg #[.int .u8 4, .int .i64 a, .int .i64 b, .int .i64 x]] w fun e w' => e = .returned (.bool true) ∧ Dn W A c S m qx w' := by
  have HM := Lib.hid (deed_start (k := 4) (a := a) (b := b) (x := x) h)
  have HI := Lib.hid h
  clear h
  go_enter Tryz.func16, Tryz.ntmps16
  go_wp2_with fail
  obtain ⟨W1, hW1⟩ : ∃ W1, W1 = w.alloc (Obj.cells #[.int .u8 4, .int .i64 a, .int .i64 b, .int .i64 x] 36) := ⟨_, rfl⟩
  obtain ⟨b0, hb0⟩ : ∃ b0, b0 = w.heap.size := ⟨_, rfl⟩
  rw [← hW1, ← hb0] at HM ⊢
  clear hW1 hb0
  have HD : Hid (Dm W W1.drew A c S H S H O m qx b0 4 a b x) := HM.out.old (Touch.drew (Touch.refl _ _))
  have hc1 := fun {w : World} (h : HpI W w A c S H) => hp_Bear a x h
  have hc2 := fun {w : World} (h : Rv w O m qx c A.L.n S H) => rv_Bear a x h
  obtain ⟨E, hE⟩ : ∃ E, S.beaE c a x = E := ⟨_, rfl⟩
  simp only [hE] at hc1 hc2
  have HC := Lib.hid (And.intro @hc1 @hc2)
  clear hc1 hc2 hE
  go_region_held3 (fun w1 => w1.cell? ⟨b0, 1, none⟩ = some (.int .i64 a) ∧ w1.cell? ⟨b0, 2, none⟩ = some (.int .i64 b) ∧ w1.cell? ⟨b0, 3, none⟩ = some (.int .i64 x)) (first | exact HQ2.out.2.cells | exact HQ1.out.bk.cells | exact HD.out.bk.cells) (first
    | (go_at_call 66; refine (HC.out.2 HQ1.out.rv).mono ?_; rintro e w3 ⟨rfl, O3, t3, s3, r3⟩; have HQ2 := Lib.hid (HQ1.out.ref t3 s3 r3); clear t3 s3 r3)
    | (go_at_call 42; refine (HC.out.1 HD.out.hp).mono ?_; rintro e w2 ⟨rfl, t2, hp2⟩; have HQ1 := Lib.hid (HD.out.heap t2 hp2); clear t2 hp2))
  rename_i hheld
  clear hheld
  go_wp2
  go_ret
  exact ⟨rfl, _, _, O3, HQ2.out.1, by rw [beaS_x]⟩
set_option maxRecDepth 20000 in
set_option maxHeartbeats 1000000 in
theorem does_5 (h : Two W w A c S H O m qx) :
    Calls Tryz.prog 16 #[.pointer (some ⟨A.h, 0, none⟩), .pointer (some ⟨m, 0, none⟩), .agg #[.int .u8 5, .int .i64 a, .int .i64 b, .int .i64 x]] w fun e w' => e = .returned (.bool true) ∧ Dn W A c S m qx w' := by
  have HM := Lib.hid (deed_start (k := 5) (a := a) (b := b) (x := x) h)
  have HI := Lib.hid h
  clear h
  go_enter Tryz.func16, Tryz.ntmps16
  go_wp2_with fail
  obtain ⟨W1, hW1⟩ : ∃ W1, W1 = w.alloc (Obj.cells #[.int .u8 5, .int .i64 a, .int .i64 b, .int .i64 x] 36) := ⟨_, rfl⟩
  obtain ⟨b0, hb0⟩ : ∃ b0, b0 = w.heap.size := ⟨_, rfl⟩
  rw [← hW1, ← hb0] at HM ⊢
  clear hW1 hb0
  have HD : Hid (Dm W W1.drew A c S H S H O m qx b0 5 a b x) := HM.out.old (Touch.drew (Touch.refl _ _))
  have hc1 := fun {w : World} (h : HpI W w A c S H) => hp_Free a h
  have hc2 := fun {w : World} (h : Rv w O m qx c A.L.n S H) => rv_Release a h
  obtain ⟨E, hE⟩ : ∃ E, S.freE a = E := ⟨_, rfl⟩
  simp only [hE] at hc1 hc2
  have HC := Lib.hid (And.intro @hc1 @hc2)
  clear hc1 hc2 hE
  go_region_held3 (fun w1 => w1.cell? ⟨b0, 1, none⟩ = some (.int .i64 a) ∧ w1.cell? ⟨b0, 2, none⟩ = some (.int .i64 b) ∧ w1.cell? ⟨b0, 3, none⟩ = some (.int .i64 x)) (first | exact HQ2.out.2.cells | exact HQ1.out.bk.cells | exact HD.out.bk.cells) (first
    | (go_at_call 67; refine (HC.out.2 HQ1.out.rv).mono ?_; rintro e w3 ⟨rfl, O3, t3, s3, r3⟩; have HQ2 := Lib.hid (HQ1.out.ref t3 s3 r3); clear t3 s3 r3)
    | (go_at_call 43; refine (HC.out.1 HD.out.hp).mono ?_; rintro e w2 ⟨rfl, t2, hp2⟩; have HQ1 := Lib.hid (HD.out.heap t2 hp2); clear t2 hp2))
  rename_i hheld
  clear hheld
  go_wp2
  go_ret
  exact ⟨rfl, _, _, O3, HQ2.out.1, by rw [freS_x']⟩
set_option maxRecDepth 20000 in
set_option maxHeartbeats 1000000 in
theorem does_6 (h : Two W w A c S H O m qx) :
    Calls Tryz.prog 16 #[.pointer (some ⟨A.h, 0, none⟩), .pointer (some ⟨m, 0, none⟩), .agg #[.int .u8 6, .int .i64 a, .int .i64 b, .int .i64 x]] w fun e w' => e = .returned (.bool true) ∧ Dn W A c S m qx w' := by
  have HM := Lib.hid (deed_start (k := 6) (a := a) (b := b) (x := x) h)
  have HI := Lib.hid h
  clear h
  go_enter Tryz.func16, Tryz.ntmps16
  go_wp2_with fail
  obtain ⟨W1, hW1⟩ : ∃ W1, W1 = w.alloc (Obj.cells #[.int .u8 6, .int .i64 a, .int .i64 b, .int .i64 x] 36) := ⟨_, rfl⟩
  obtain ⟨b0, hb0⟩ : ∃ b0, b0 = w.heap.size := ⟨_, rfl⟩
  rw [← hW1, ← hb0] at HM ⊢
  clear hW1 hb0
  have HD : Hid (Dm W W1.drew A c S H S H O m qx b0 6 a b x) := HM.out.old (Touch.drew (Touch.refl _ _))
  have hc1 := fun {w : World} (h : HpI W w A c S H) => hp_Store a b x h
  have hc2 := fun {w : World} (h : Rv w O m qx c A.L.n S H) => rv_Store a b x h
  obtain ⟨E, hE⟩ : ∃ E, S.stE c a b x = E := ⟨_, rfl⟩
  simp only [hE] at hc1 hc2
  have HC := Lib.hid (And.intro @hc1 @hc2)
  clear hc1 hc2 hE
  go_region_held3 (fun w1 => w1.cell? ⟨b0, 1, none⟩ = some (.int .i64 a) ∧ w1.cell? ⟨b0, 2, none⟩ = some (.int .i64 b) ∧ w1.cell? ⟨b0, 3, none⟩ = some (.int .i64 x)) (first | exact HQ2.out.2.cells | exact HQ1.out.bk.cells | exact HD.out.bk.cells) (first
    | (go_at_call 68; refine (HC.out.2 HQ1.out.rv).mono ?_; rintro e w3 ⟨rfl, O3, t3, s3, r3⟩; have HQ2 := Lib.hid (HQ1.out.ref t3 s3 r3); clear t3 s3 r3)
    | (go_at_call 44; refine (HC.out.1 HD.out.hp).mono ?_; rintro e w2 ⟨rfl, t2, hp2⟩; have HQ1 := Lib.hid (HD.out.heap t2 hp2); clear t2 hp2))
  rename_i hheld
  clear hheld
  go_wp2
  go_ret
  exact ⟨rfl, _, _, O3, HQ2.out.1, by rw [stS_x]⟩
set_option maxRecDepth 20000 in
set_option maxHeartbeats 1000000 in
theorem does_0 (h : Two W w A c S H O m qx) :
    Calls Tryz.prog 16 #[.pointer (some ⟨A.h, 0, none⟩), .pointer (some ⟨m, 0, none⟩), .agg #[.int .u8 0, .int .i64 a, .int .i64 b, .int .i64 x]] w fun e w' => e = .returned (.bool true) ∧ Dn W A c S m qx w' := by
  have HM := Lib.hid (deed_start (k := 0) (a := a) (b := b) (x := x) h)
  have HI := Lib.hid h
  clear h
  go_enter Tryz.func16, Tryz.ntmps16
  go_wp2_with fail
  obtain ⟨W1, hW1⟩ : ∃ W1, W1 = w.alloc (Obj.cells #[.int .u8 0, .int .i64 a, .int .i64 b, .int .i64 x] 36) := ⟨_, rfl⟩
  obtain ⟨b0, hb0⟩ : ∃ b0, b0 = w.heap.size := ⟨_, rfl⟩
  rw [← hW1, ← hb0] at HM ⊢
  clear hW1 hb0
  obtain ⟨k1, k2, k3⟩ := HM.out.bk.cells
  have hc1 := fun {w : World} (h : HpI W w A c S H) => hp_Take a h
  have hc2 := fun {w : World} (h : Rv w O m qx c A.L.n S H) => rv_Take a h
  obtain ⟨E, hE⟩ : ∃ E, takE H a = E := ⟨_, rfl⟩
  obtain ⟨V, hV⟩ : ∃ V, takV H a = V := ⟨_, rfl⟩
  simp only [hE, hV] at hc1 hc2
  have HC := Lib.hid (And.intro @hc1 @hc2)
  clear hc1 hc2 hE hV
  go_wp2_with (go_at_call 36; fail)
  refine (HC.out.1 HM.out.hp).mono ?_
  rintro e w2 ⟨rfl, t2, hp2⟩
  have HQ1 := Lib.hid (HM.out.heap t2 hp2)
  clear t2 hp2 k1 k2 k3
  obtain ⟨k1, k2, k3⟩ := HQ1.out.bk.cells
  go_wp2_with (go_at_call 62; fail)
  refine (HC.out.2 HQ1.out.rv).mono ?_
  rintro e w3 ⟨rfl, O3, t3, s3, r3⟩
  have HQ2 := Lib.hid (HQ1.out.ref t3 s3 r3)
  clear t3 s3 r3 k1 k2 k3
  go_wp2
  go_ret
  exact ⟨rfl, _, _, O3, HQ2.out.1, by rw [takS_x]⟩
set_option maxRecDepth 20000 in
set_option maxHeartbeats 1000000 in
theorem does_7 (h : Two W w A c S H O m qx) :
    Calls Tryz.prog 16 #[.pointer (some ⟨A.h, 0, none⟩), .pointer (some ⟨m, 0, none⟩), .agg #[.int .u8 7, .int .i64 a, .int .i64 b, .int .i64 x]] w fun e w' => e = .returned (.bool true) ∧ Dn W A c S m qx w' := by
  have HM := Lib.hid (deed_start (k := 7) (a := a) (b := b) (x := x) h)
  have HI := Lib.hid h
  clear h
  go_enter Tryz.func16, Tryz.ntmps16
  go_wp2_with fail
  obtain ⟨W1, hW1⟩ : ∃ W1, W1 = w.alloc (Obj.cells #[.int .u8 7, .int .i64 a, .int .i64 b, .int .i64 x] 36) := ⟨_, rfl⟩
  obtain ⟨b0, hb0⟩ : ∃ b0, b0 = w.heap.size := ⟨_, rfl⟩
  rw [← hW1, ← hb0] at HM ⊢
  clear hW1 hb0
  obtain ⟨k1, k2, k3⟩ := HM.out.bk.cells
  have hc1 := fun {w : World} (h : HpI W w A c S H) => hp_Paint a x h
  have hc2 := fun {w : World} (h : Rv w O m qx c A.L.n S H) => rv_Paint a x h
  obtain ⟨E, hE⟩ : ∃ E, S.paiE a x = E := ⟨_, rfl⟩
  obtain ⟨V, hV⟩ : ∃ V, S.paiV a x = V := ⟨_, rfl⟩
  simp only [hE, hV] at hc1 hc2
  have HC := Lib.hid (And.intro @hc1 @hc2)
  clear hc1 hc2 hE hV
  go_wp2_with (go_at_call 38; fail)
  refine (HC.out.1 HM.out.hp).mono ?_
  rintro e w2 ⟨rfl, t2, hp2⟩
  have HQ1 := Lib.hid (HM.out.heap t2 hp2)
  clear t2 hp2 k1 k2 k3
  obtain ⟨k1, k2, k3⟩ := HQ1.out.bk.cells
  go_wp2_with (go_at_call 69; fail)
  refine (HC.out.2 HQ1.out.rv).mono ?_
  rintro e w3 ⟨rfl, O3, t3, s3, r3⟩
  have HQ2 := Lib.hid (HQ1.out.ref t3 s3 r3)
  clear t3 s3 r3 k1 k2 k3
  go_wp2
  go_ret
  exact ⟨rfl, _, _, O3, HQ2.out.1, by rw [paiS_x]⟩
set_option maxRecDepth 20000 in
set_option maxHeartbeats 1000000 in
theorem does_9 (h : Two W w A c S H O m qx) (hk : (k ≠ 0 ∧ k ≠ 1 ∧ k ≠ 2 ∧ k ≠ 3) ∧ (k ≠ 4 ∧ k ≠ 5 ∧ k ≠ 6 ∧ k ≠ 7) ∧ k ≠ 8) :
    Calls Tryz.prog 16 #[.pointer (some ⟨A.h, 0, none⟩), .pointer (some ⟨m, 0, none⟩), .agg #[.int .u8 k, .int .i64 a, .int .i64 b, .int .i64 x]] w fun e w' => e = .returned (.bool true) ∧ Dn W A c S m qx w' := by
  have HM := Lib.hid (deed_start (k := k) (a := a) (b := b) (x := x) h)
  have HI := Lib.hid h
  have hkb : (k == 0) = false ∧ (k == 1) = false ∧ (k == 2) = false ∧ (k == 3) = false ∧ (k == 4) = false ∧ (k == 5) = false ∧ (k == 6) = false ∧ (k == 7) = false ∧ (k == 8) = false := by simp only [beq_eq_false_iff_ne, ne_eq]; omega
  obtain ⟨f0, f1, f2, f3, f4, f5, f6, f7, f8⟩ := hkb
  clear h hk
  go_enter Tryz.func16, Tryz.ntmps16
  go_wp2_with fail
  obtain ⟨W1, hW1⟩ : ∃ W1, W1 = w.alloc (Obj.cells #[.int .u8 k, .int .i64 a, .int .i64 b, .int .i64 x] 36) := ⟨_, rfl⟩
  obtain ⟨b0, hb0⟩ : ∃ b0, b0 = w.heap.size := ⟨_, rfl⟩
  rw [← hW1, ← hb0] at HM ⊢
  clear hW1 hb0
  obtain ⟨k1, k2, k3⟩ := HM.out.bk.cells
  have hc1 := fun {w : World} (h : HpI W w A c S H) => hp_Make a x h
  have hc2 := fun {w : World} (h : Rv w O m qx c A.L.n S H) => rv_Make a x h
  obtain ⟨E, hE⟩ : ∃ E, makE S H A.L.n a x = E := ⟨_, rfl⟩
  obtain ⟨V, hV⟩ : ∃ V, makV S H c A.L.n a x = V := ⟨_, rfl⟩
  simp only [hE, hV] at hc1 hc2
  have HC := Lib.hid (And.intro @hc1 @hc2)
  clear hc1 hc2 hE hV
  go_wp2_with (go_at_call 39; fail)
  refine (HC.out.1 HM.out.hp).mono ?_
  rintro e w2 ⟨rfl, t2, hp2⟩
  have HQ1 := Lib.hid (HM.out.heap t2 hp2)
  clear t2 hp2 k1 k2 k3
  obtain ⟨k1, k2, k3⟩ := HQ1.out.bk.cells
  go_wp2_with (go_at_call 70; fail)
  refine (HC.out.2 HQ1.out.rv).mono ?_
  rintro e w3 ⟨rfl, O3, t3, s3, r3⟩
  have HQ2 := Lib.hid (HQ1.out.ref t3 s3 r3)
  clear t3 s3 r3 k1 k2 k3
  go_wp2
  go_ret
  exact ⟨rfl, _, _, O3, HQ2.out.1, by rw [(mak_ev HI.out.rv.inv HI.out.rv.tb.hn).x]⟩
set_option maxRecDepth 20000 in
set_option maxHeartbeats 1000000 in
theorem does_1 (h : Two W w A c S H O m qx) :
    Calls Tryz.prog 16 #[.pointer (some ⟨A.h, 0, none⟩), .pointer (some ⟨m, 0, none⟩), .agg #[.int .u8 1, .int .i64 a, .int .i64 b, .int .i64 x]] w fun e w' => e = .returned (.bool true) ∧ Dn W A c S m qx w' := by
  have HM := Lib.hid (deed_start (k := 1) (a := a) (b := b) (x := x) h)
  have HI := Lib.hid h
  clear h
  go_enter Tryz.func16, Tryz.ntmps16
  go_wp2_with fail
  obtain ⟨W1, hW1⟩ : ∃ W1, W1 = w.alloc (Obj.cells #[.int .u8 1, .int .i64 a, .int .i64 b, .int .i64 x] 36) := ⟨_, rfl⟩
  obtain ⟨b0, hb0⟩ : ∃ b0, b0 = w.heap.size := ⟨_, rfl⟩
  rw [← hW1, ← hb0] at HM ⊢
  clear hW1 hb0
  obtain ⟨k1, k2, k3⟩ := HM.out.bk.cells
  have hlt : ∀ g, O g → g < W1.heap.size := fun g hg => by
    obtain ⟨⟨R, ⟨_, _, _, hb⟩, _⟩, _⟩ := HM.out.rv
    exact hb.lt g hg
  have HLT := Lib.hid hlt
  clear hlt
  have hc1 := fun {w : World} (h : HpI W w A c S H) => hp_Assign a h
  have hc2 := fun {w : World} (h : Rv w O m qx c A.L.n S H) => rv_Assign a h
  obtain ⟨E, hE⟩ : ∃ E, S.asgE A.L.n a = E := ⟨_, rfl⟩
  simp only [hE] at hc1 hc2
  have HC := Lib.hid (And.intro @hc1 @hc2)
  clear hc1 hc2 hE
  go_wp2_with (go_at_call 37; fail)
  refine (HC.out.1 HM.out.hp).mono ?_
  rintro e w2 ⟨v2, rfl, t2, hp2, i2, g2⟩
  have HQ1 := Lib.hid (HM.out.heap t2 hp2)
  have HV2 := Lib.hid (And.intro i2 g2)
  clear t2 hp2 k1 k2 k3 i2 g2
  obtain ⟨k1, k2, k3⟩ := HQ1.out.bk.cells
  go_wp2_with (go_at_call 63; fail)
  refine (HC.out.2 HQ1.out.rv).mono ?_
  rintro e w3 ⟨v3, O3, rfl, t3, s3, ow3, r3, nd⟩
  have HQ2 := Lib.hid (HQ1.out.ref t3 s3 r3)
  have HV3 := Lib.hid (And.intro (HV2.out.1.touch t3 (fun g hg hO => by
    have h1 := HLT.out g hO
    have h2 := HV2.out.2 g hg
    omega)) ow3.ints)
  clear t3 s3 r3 k1 k2 k3 ow3 nd
  go_wp2_with (go_at_call 52; fail)
  refine (ref01_Same v2 v3 (S.asgL c A.L.n a) w3 HV3.out.1 HV3.out.2 (Nat.le_trans (asgL_len _ _ _ _) (by decide))).mono ?_
  rintro e w4 ⟨rfl, t4⟩
  have HQ4 := Lib.hid (HQ2.out.1.old t4)
  clear t4
  go_wp2
  go_ret
  exact ⟨rfl, _, _, O3, HQ4.out, by rw [asgS_x]⟩
end Go.Proofs.YtflhjbmoncbomaaGreatDoor
