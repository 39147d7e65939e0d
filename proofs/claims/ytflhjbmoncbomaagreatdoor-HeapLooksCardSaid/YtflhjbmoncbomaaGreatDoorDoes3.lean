/- The heap's law: a slot is begun, done to both: walked. Conditions: what Two says. -/
import Derived.Test.YtflhjbmoncbomaaGreatDoorDoes
namespace Go.Proofs.YtflhjbmoncbomaaGreatDoor
open Go.RowKit

variable {W w w' w2 w3 : World} {O O' T : Nat → Prop} {m qx b0 : Nat} {c : Cf} {A : HA} {S S' : HS} {H H' : Nat → List Nat} {k a b x : Int}
theorem begZ_x (S : HS) (c : Cf) (a f : Int) : (begZ S c a f).x = S.x := by
  unfold begZ
  split
  · rw [(zer_facts _ _ _).x]
    unfold HS.begS
    split <;> rfl
  · rfl
/-- While the fields of a slot that is begun are laid. -/
structure BgI (W w : World) (A : HA) (c : Cf) (S : HS) (H : Nat → List Nat) (O : Nat → Prop) (m qx b0 : Nat) (k a b x : Int) (j kk t : Nat) : Prop where
  hp : HpI W w A c (zer (S.setw j (hObj kk b)) j t) H
  rv : Rv w O m qx c A.L.n (zer (S.setw j (hObj kk b)) j b.toNat) H
  bk : Bk w b0 k a b x
  ap : ∀ g ∈ A.all, ¬ O g
  hO : ∀ g, O g → W.heap.size ≤ g
  nA : b0 ∉ A.all
theorem BgI.old {j kk t : Nat} (h : BgI W w A c S H O m qx b0 k a b x j kk t) (ht : Touch nob w w2) : BgI W w2 A c S H O m qx b0 k a b x j kk t :=
  ⟨h.hp.old ht, h.rv.old ht, blk_touch h.bk ht (fun x => x), h.ap, h.hO, h.nA⟩
theorem BgI.heap {j kk t t2 : Nat} (h : BgI W w A c S H O m qx b0 k a b x j kk t) (ht : Touch (HT A) w w2) (hp : HpI W w2 A c (zer (S.setw j (hObj kk b)) j t2) H) : BgI W w2 A c S H O m qx b0 k a b x j kk t2 :=
  ⟨hp, h.rv.touch ht (fun g hO hA => h.ap g hA hO), blk_touch h.bk ht h.nA, h.ap, h.hO, h.nA⟩
set_option maxRecDepth 20000 in
set_option maxHeartbeats 1000000 in
theorem does_3_no (h : Two W w A c S H O m qx) (hno : S.begE c a b ≠ 0) :
    Calls Tryz.prog 16 #[.pointer (some ⟨A.h, 0, none⟩), .pointer (some ⟨m, 0, none⟩), .agg #[.int .u8 3, .int .i64 a, .int .i64 b, .int .i64 x]] w fun e w' => e = .returned (.bool true) ∧ Dn W A c S m qx w' := by
  have HM := Lib.hid (deed_start (k := 3) (a := a) (b := b) (x := x) h)
  have eS : S.begS c a b = S := by unfold HS.begS; rw [if_neg hno]
  have eZ : begZ S c a b = S := by unfold begZ; rw [if_neg hno]
  have hc1 := fun (w : World) (h : HpI W w A c S H) => hp_Begin a b h
  have hc2 := fun (w : World) (h : Rv w O m qx c A.L.n S H) => rv_Begin a b h
  obtain ⟨E, hE⟩ : ∃ E, S.begE c a b = E := ⟨_, rfl⟩
  simp only [hE, eS, eZ] at hc1 hc2
  have HC := Lib.hid (And.intro hc1 hc2)
  have hE0 : ¬ E = 0 := by rw [← hE]; exact hno
  have hEb : (E != 0) = true := by simpa using hE0
  clear h hno eS eZ hc1 hc2 hE
  go_enter Tryz.func16, Tryz.ntmps16
  go_wp2_with fail
  obtain ⟨W1, hW1⟩ : ∃ W1, W1 = w.alloc (Obj.cells #[.int .u8 3, .int .i64 a, .int .i64 b, .int .i64 x] 36) := ⟨_, rfl⟩
  obtain ⟨b0, hb0⟩ : ∃ b0, b0 = w.heap.size := ⟨_, rfl⟩
  rw [← hW1, ← hb0] at HM ⊢
  clear hW1 hb0
  obtain ⟨k1, k2, k3⟩ := HM.out.bk.cells
  go_wp2_with (go_at_call 41; fail)
  refine (HC.out.1 _ HM.out.hp).mono ?_
  rintro e w2 ⟨rfl, t2, hp2⟩
  have HQ1 := Lib.hid (HM.out.heap t2 hp2)
  clear t2 hp2 k1 k2 k3
  obtain ⟨k1, k2, k3⟩ := HQ1.out.bk.cells
  go_wp2_with (go_at_call 65; fail)
  refine (HC.out.2 _ HQ1.out.rv).mono ?_
  rintro e w3 ⟨rfl, O3, t3, s3, r3⟩
  have HQ2 := Lib.hid (HQ1.out.ref t3 s3 r3)
  clear t3 s3 r3 k1 k2 k3
  go_wp2
  go_ret
  exact ⟨rfl, _, _, O3, HQ2.out.1, rfl⟩
set_option maxRecDepth 20000 in
set_option maxHeartbeats 2000000 in
theorem does_3_ok (h : Two W w A c S H O m qx) (hok : S.begE c a b = 0) :
    Calls Tryz.prog 16 #[.pointer (some ⟨A.h, 0, none⟩), .pointer (some ⟨m, 0, none⟩), .agg #[.int .u8 3, .int .i64 a, .int .i64 b, .int .i64 x]] w fun e w' => e = .returned (.bool true) ∧ Dn W A c S m qx w' := by
  have HM := Lib.hid (deed_start (k := 3) (a := a) (b := b) (x := x) h)
  have hbe := hok
  unfold HS.begE at hbe
  have hh : S.hand c a = true := by
    by_cases hh : S.hand c a = true
    · exact hh
    · rw [if_neg hh] at hbe; cases hbe
  rw [if_pos hh] at hbe
  have hob : objOk (clsA c S.s.ks a) b = true := by
    by_cases ho : objOk (clsA c S.s.ks a) b = true
    · exact ho
    · rw [if_neg ho] at hbe; cases hbe
  obtain ⟨j, kk, ej, hj, hk4, hcl, hown⟩ := h.rv.inv.slot_of (HS.hand_own hh).1
  subst ej
  rw [hcl] at hob
  have hb15 : 0 ≤ b ∧ b ≤ 15 := by
    have h1 := objOk_iff.1 hob
    have h2 := (clsRoom_bd (kk : Int)).2
    omega
  have g : Mkg c S j kk b := ⟨hh, hcl, hk4, hob, hj, hown⟩
  have eS : S.begS c ((j : Int) + 1) b = S.setw j (hObj kk b) := by unfold HS.begS; rw [hok, if_pos rfl, hcl, show ((j : Int) + 1 - 1).toNat = j by omega]
  have eZ : begZ S c ((j : Int) + 1) b = zer (S.setw j (hObj kk b)) j b.toNat := by unfold begZ; rw [hok, if_pos rfl, eS, show ((j : Int) + 1 - 1).toNat = j by omega]
  have hc1 := fun (w : World) (h : HpI W w A c S H) => hp_Begin ((j : Int) + 1) b h
  have hc2 := fun (w : World) (h : Rv w O m qx c A.L.n S H) => rv_Begin ((j : Int) + 1) b h
  simp only [hok, eS, eZ] at hc1 hc2
  have HC := Lib.hid (And.intro hc1 hc2)
  have HG := Lib.hid g
  obtain ⟨nb, rfl⟩ := Int.eq_ofNat_of_zero_le hb15.1
  have hnb : nb ≤ 15 := by omega
  clear h hok hbe hh hob hcl hown eS eZ hc1 hc2 g hb15
  go_enter Tryz.func16, Tryz.ntmps16
  go_wp2_with fail
  obtain ⟨W1, hW1⟩ : ∃ W1, W1 = w.alloc (Obj.cells #[.int .u8 3, .int .i64 ((j : Int) + 1), .int .i64 nb, .int .i64 x] 36) := ⟨_, rfl⟩
  obtain ⟨b0, hb0⟩ : ∃ b0, b0 = w.heap.size := ⟨_, rfl⟩
  rw [← hW1, ← hb0] at HM ⊢
  clear hW1 hb0
  obtain ⟨k1, k2, k3⟩ := HM.out.bk.cells
  go_wp2_with (go_at_call 41; fail)
  refine (HC.out.1 _ HM.out.hp).mono ?_
  rintro e w2 ⟨rfl, t2, hp2⟩
  have HQ1 : Hid (Dm W w2 A c S H (S.setw j (hObj kk nb)) H O m qx b0 3 ((j : Int) + 1) nb x) := HM.out.heap t2 hp2
  clear t2 hp2 k1 k2 k3
  obtain ⟨k1, k2, k3⟩ := HQ1.out.bk.cells
  go_wp2_with (go_at_call 65; fail)
  refine (HC.out.2 _ HQ1.out.rv).mono ?_
  rintro e w3 ⟨rfl, O3, t3, s3, r3⟩
  have HQ2 : Hid (BgI W w3 A c S H O3 m qx b0 3 ((j : Int) + 1) nb x j kk 0) := ⟨HQ1.out.hp.touch (HQ1.out.hp.at'.base.step t3 (fun y hy => .inr (HQ1.out.hO y hy))) t3 HQ1.out.ap, r3, blk_touch HQ1.out.bk t3 HQ1.out.nO, fun y hy hO => (s3 y hO).elim (HQ1.out.ap y hy) (fun z => absurd (HQ1.out.hp.at'.lt y hy) (by omega)), fun y hy => (s3 y hy).elim (HQ1.out.hO y) (fun z => Nat.le_trans HQ1.out.hp.at'.base.size z), HQ1.out.nA⟩
  clear t3 s3 r3 k1 k2 k3
  go_wp2_with fail
  go_loopw [17] (fun i wr => ∃ t : Nat, t ≤ nb ∧ i = .int .i64 t ∧ Hid (BgI W wr A c S H O3 m qx b0 3 ((j : Int) + 1) nb x j kk t)) (fun i _ => nb - (intOf i).toNat)
  case atStart => exact ⟨0, Nat.zero_le _, rfl, HQ2.out⟩
  case round =>
    obtain ⟨t, ht, rfl, HR⟩ := hrel
    clear HQ2 HQ1 HM
    obtain ⟨k1, k2, k3⟩ := HR.out.bk.cells
    by_cases hlt : t < nb
    · have htb : (t : Int) < (nb : Int) := by omega
      have hst := hp_Store ((j : Int) + 1) t 0 HR.out.hp
      obtain ⟨e1, e2⟩ := HG.out.store t htb
      rw [e1, e2] at hst
      have HS2 := Lib.hid hst
      clear hst e1 e2
      go_wp2_with (go_at_call 44; fail)
      refine HS2.out.mono ?_
      rintro e w4 ⟨rfl, t4, hp4⟩
      have H4 : Hid (BgI W w4 A c S H O3 m qx b0 3 ((j : Int) + 1) nb x j kk (t + 1)) := HR.out.heap t4 hp4
      clear t4 hp4 k1 k2 k3 HS2
      obtain ⟨k1, k2, k3⟩ := H4.out.bk.cells
      go_wp2
      go_roundw
      case rel => exact ⟨t + 1, by omega, by go_num, H4.out⟩
      case measure => simp [intOf]; omega
    · obtain rfl : nb = t := by omega
      have htb : ¬ (nb : Int) < (nb : Int) := by omega
      have HE := Lib.hid (HR.out.old (Touch.drew (Touch.refl _ _)))
      clear hlt ht
      go_wp2
      go_ret
      refine ⟨rfl, _, _, O3, ⟨HR.out.hp, ?_, HR.out.ap, HR.out.hO⟩, ?_⟩
      · have := HR.out.rv
        rwa [Int.toNat_natCast] at this
      · rw [(zer_facts _ _ _).x]
        rfl
theorem does_3 (h : Two W w A c S H O m qx) :
    Calls Tryz.prog 16 #[.pointer (some ⟨A.h, 0, none⟩), .pointer (some ⟨m, 0, none⟩), .agg #[.int .u8 3, .int .i64 a, .int .i64 b, .int .i64 x]] w fun e w' => e = .returned (.bool true) ∧ Dn W A c S m qx w' := by
  by_cases hg : S.begE c a b = 0
  · exact does_3_ok h hg
  · exact does_3_no h hg
end Go.Proofs.YtflhjbmoncbomaaGreatDoor
