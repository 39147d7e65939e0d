/- Tables of blocks: those, Owner, Slots, walked. Conditions: the tables of limits and of sizes read as laid, where said. Tables of blocks: Owner, walked. Conditions: the tables of limits and of sizes read as laid. -/
import Derived.Test.YtflhjbmoncbomaaGreatDoorBlk2
import Derived.Test.YtflhjbmoncbomaaGreatDoorOwn
import Derived.Test.YtflhjbmoncbomaaGreatDoorInts
import Derived.Test.YtflhjbmoncbomaaGreatDoorAll
import Derived.Test.YtflhjbmoncbomaaGreatDoorCount2
import Derived.Deep.AppendLies
import Derived.Test.YtflhjbmoncbomaaGreatDoorRep
namespace Go.Proofs.YtflhjbmoncbomaaGreatDoor
open Go.RowKit

variable {w : World} {p q cap n : Nat} {c : Cf} {ks : List Int}
theorem blk_Slots_ok (b : Nat) (h : BlkAt w p q cap n c ks) (hb : b < ks.length) (hL : Limits w) (hS : Sizes w) :
    Calls Tryz.prog 79 #[.pointer (some ⟨p, 0, none⟩), .int .i64 b] w fun e w' => ∃ v, e = .returned v ∧ Touch nob w w' ∧ IntsIn w' v (sl c (ks.getD b 0) b) ∧ ∀ g, v.ownBlock = some g → w.heap.size ≤ g := by
  have hk := h.cls b hb
  obtain ⟨k, hke⟩ : ∃ k, ks.getD b 0 = k := ⟨_, rfl⟩
  have hcl := blk_Class_ok b h hb
  rw [hke] at hk hcl ⊢
  have HCL := Lib.hid hcl
  have HLS := Lib.hid (And.intro hL hS)
  obtain ⟨⟨d0, d1, d2, d3⟩, d4, d5, d6, d7⟩ := box8 h.box
  have H := Lib.hid h
  have HP := Lib.hid (show perBlock c.c1 k = ((perBlock c.c1 k).toNat : Nat) by have := (per_cls h.ok hk).1; omega)
  clear h hL hS hcl hke hb
  go_enter Tryz.func79, Tryz.ntmps79
  go_wp2_with (go_at_call 116; fail)
  refine HCL.out.mono ?_
  rintro e w1 ⟨rfl, rfl⟩
  go_wp2_with (go_at_call 117; fail)
  refine (addr_Slots c.c0 c.c1 c.c2 c.c3 c.c4 c.c5 c.c6 k b w HLS.out.1 HLS.out.2 _ HP.out).mono ?_
  rintro e w1 ⟨v, rfl, hT, hI, hG⟩
  have H2 := Lib.hid (And.intro hT (And.intro hI hG))
  obtain ⟨ao, cp, rfl⟩ := hI.shape
  clear hT hI hG
  go_wp2
  go_ret
  exact ⟨_, rfl, H2.out.1, H2.out.2.1, H2.out.2.2⟩
theorem blk_Slots_no (b : Int) (h : BlkAt w p q cap n c ks) (hb : b < 0 ∨ (ks.length : Int) ≤ b) :
    Calls Tryz.prog 79 #[.pointer (some ⟨p, 0, none⟩), .int .i64 b] w fun e w' => e = .returned (.slice none 0 0) ∧ w = w' := by
  have HCL := Lib.hid (blk_Class_no b h hb)
  clear h hb
  go_enter Tryz.func79, Tryz.ntmps79
  go_wp2_with (go_at_call 116; fail)
  refine HCL.out.mono ?_
  rintro e w1 ⟨rfl, rfl⟩
  go_wp2
  go_ret
  exact ⟨rfl, rfl⟩
theorem blk_Slots (m : Nat) (h : BlkAt w p q cap n c ks) (hL : Limits w) (hS : Sizes w) :
    Calls Tryz.prog 79 #[.pointer (some ⟨p, 0, none⟩), .int .i64 m] w fun e w' => ∃ v, e = .returned v ∧ Touch nob w w' ∧ IntsIn w' v (slAt c ks m) ∧ ∀ g, v.ownBlock = some g → w.heap.size ≤ g := by
  unfold slAt
  by_cases hm : m < ks.length
  · rw [if_pos hm]
    exact blk_Slots_ok m h hm hL hS
  · rw [if_neg hm]
    exact (blk_Slots_no m h (.inr (by omega))).mono fun e w' g => ⟨_, g.1, by rw [g.2]; exact Touch.refl _ _, ⟨none, 0, rfl, .inl rfl⟩, fun _ h => by cases h⟩
end Go.Proofs.YtflhjbmoncbomaaGreatDoor
namespace Go.Proofs.YtflhjbmoncbomaaGreatDoor
open Go.RowKit

variable {w : World} {p q cap n : Nat} {c : Cf} {ks : List Int}
/-- The class that Owner looks with, and whether. -/
def atK (ks : List Int) (b : Int) : Int := if 0 ≤ b ∧ b.toNat < ks.length then ks.getD b.toNat 0 else 0
def atB (ks : List Int) (b : Int) : Bool := decide (0 ≤ b ∧ b.toNat < ks.length)
theorem blk_Class (b : Int) (h : BlkAt w p q cap n c ks) :
    Calls Tryz.prog 116 #[.pointer (some ⟨p, 0, none⟩), .int .i64 b] w fun e w' => e = .returned (.tuple #[.int .i64 (atK ks b), .bool (atB ks b)]) ∧ w = w' := by
  by_cases hb : 0 ≤ b ∧ b.toNat < ks.length
  · obtain ⟨j, rfl⟩ := Int.eq_ofNat_of_zero_le hb.1
    have hj : j < ks.length := by simpa using hb.2
    refine (blk_Class_ok j h hj).mono fun e w' g => ⟨?_, g.2⟩
    rw [g.1]
    unfold atK atB
    rw [if_pos hb, decide_eq_true hb]
    rfl
  · refine (blk_Class_no b h (by omega)).mono fun e w' g => ⟨?_, g.2⟩
    rw [g.1]
    unfold atK atB
    rw [if_neg hb, decide_eq_false hb]
def owV (c : Cf) (ks : List Int) (a : Int) : Bool → Value
  | true => .tuple #[.int .i64 ((a - 1) / c.c1), .int .i64 (ks.getD ((a - 1) / c.c1).toNat 0), .bool true]
  | false => .tuple #[.int .i64 0, .int .i64 0, .bool false]
theorem own_eq {a B K : Int} {F G : Bool} (hc : c.ok = true) (hB : ifB (blkOk c.c0 c.c1 c.c2 c.c3 c.c4 c.c5 c.c6 a) ((a - 1) / c.c1) = B) (hK : atK ks B = K) (hG : atB ks B = G) (hF : fdOk c.c0 c.c1 c.c2 c.c3 c.c4 c.c5 c.c6 K a = F) :
    ownB c ks a = (F && (G && decide ((a - 1 - (a - 1) / c.c1 * c.c1) % clsSize K = 0))) ∧ (F = true → B = (a - 1) / c.c1) ∧ (G = true → K = ks.getD B.toNat 0) := by
  obtain ⟨⟨u0, v0⟩, ⟨u1, v1⟩, _⟩ := cfgOk_iff.1 hc
  have hFB : F = true → blkOk c.c0 c.c1 c.c2 c.c3 c.c4 c.c5 c.c6 a = true := fun h => by rw [h] at hF; exact (fdOk_iff.1 hF).1
  have hBB : blkOk c.c0 c.c1 c.c2 c.c3 c.c4 c.c5 c.c6 a = true → B = (a - 1) / c.c1 ∧ 0 ≤ B := fun h => by
    rw [h] at hB
    have h1 : (a - 1) / c.c1 = B := hB
    have h2 := (blkOk_iff.1 h).2.1
    have : 0 ≤ (a - 1) / c.c1 := Int.ediv_nonneg (by omega) (by omega)
    exact ⟨h1.symm, by omega⟩
  refine ⟨?_, fun h => (hBB (hFB h)).1, fun h => ?_⟩
  · unfold ownB
    cases hb : blkOk c.c0 c.c1 c.c2 c.c3 c.c4 c.c5 c.c6 a
    · cases F
      · rfl
      · rw [hFB rfl] at hb; cases hb
    · obtain ⟨e1, e2⟩ := hBB hb
      rw [← e1]
      by_cases hl : B.toNat < ks.length
      · have e3 : atK ks B = ks.getD B.toNat 0 := by unfold atK; rw [if_pos ⟨e2, hl⟩]
        have e4 : atB ks B = true := by unfold atB; rw [decide_eq_true ⟨e2, hl⟩]
        rw [hG] at e4
        rw [← e3, hK, hF, decide_eq_true hl, e4]
        rfl
      · have e4 : atB ks B = false := by unfold atB; rw [decide_eq_false (fun hh => hl hh.2)]
        rw [hG] at e4
        rw [decide_eq_false hl, e4]
        cases F <;> rfl
  · rw [← hG] at h
    unfold atB at h
    rw [← hK]
    unfold atK
    rw [if_pos (of_decide_eq_true h)]
set_option maxHeartbeats 1000000 in
theorem blk_Owner (a : Int) (h : BlkAt w p q cap n c ks) (hL : Limits w) (hS : Sizes w) :
    Calls Tryz.prog 126 #[.pointer (some ⟨p, 0, none⟩), .int .i64 a] w fun e w' => e = .returned (owV c ks a (ownB c ks a)) ∧ Touch nob w w' := by
  have H := Lib.hid (fun w' (ht : Touch nob w w') => And.intro (h.old ht) (And.intro (hL.touch ht (fun x => x)) (hS.touch ht (fun x => x))))
  clear h hL hS
  go_enter Tryz.func126, Tryz.ntmps126
  go_wp2_with (go_at_call 97; fail)
  refine (blk_Config (H.out _ (Touch.refl _ _)).1).mono ?_
  rintro e w1 ⟨rfl, hT1⟩
  go_wp2_with (go_at_call 145; fail)
  refine (addr_Block _ _ _ _ _ _ _ a w1 (H.out _ hT1).2.1).mono ?_
  rintro e w2 ⟨rfl, hb2⟩
  have hT2 := hT1.trans (Touch.of_below hb2)
  obtain ⟨B, hB⟩ : ∃ B, ifB (blkOk c.c0 c.c1 c.c2 c.c3 c.c4 c.c5 c.c6 a) ((a - 1) / c.c1) = B := ⟨_, rfl⟩
  rw [hB]
  clear hb2 hT1
  go_wp2_with (go_at_call 116; fail)
  refine (blk_Class B (H.out _ hT2).1).mono ?_
  rintro e w3 ⟨rfl, rfl⟩
  obtain ⟨K, hK⟩ : ∃ K, atK ks B = K := ⟨_, rfl⟩
  obtain ⟨G, hG⟩ : ∃ G, atB ks B = G := ⟨_, rfl⟩
  rw [hK, hG]
  go_wp2_with (go_at_call 97; fail)
  refine (blk_Config (H.out _ hT2).1).mono ?_
  rintro e w3 ⟨rfl, hT3⟩
  have hT3 := hT2.trans hT3
  clear hT2
  go_wp2_with (go_at_call 146; fail)
  refine (addr_Find _ _ _ _ _ _ _ K a w3 (H.out _ hT3).2.1 (H.out _ hT3).2.2).mono ?_
  rintro e w4 ⟨rfl, hb4⟩
  have HT4 := Lib.hid (hT3.trans (Touch.of_below hb4))
  obtain ⟨F, hF⟩ : ∃ F, fdOk c.c0 c.c1 c.c2 c.c3 c.c4 c.c5 c.c6 K a = F := ⟨_, rfl⟩
  rw [hF]
  clear hb4 hT3
  obtain ⟨he1, he2, he3⟩ := own_eq (H.out _ (Touch.refl _ _)).1.ok hB hK hG hF
  obtain ⟨bv, hbv⟩ : ∃ b, blkOk c.c0 c.c1 c.c2 c.c3 c.c4 c.c5 c.c6 a = b := ⟨_, rfl⟩
  rw [hbv]
  clear hbv
  cases F
  · rw [show fdV c.c1 K a false = PlV 0 0 0 from rfl]
    have HO : Hid (ownB c ks a = false) := by show _ = _; rw [he1]; rfl
    clear he1 he2 he3 hB hK hG hF
    go_wp2
    refine bodyPost_ret (v := .tuple #[.int .i64 0, .int .i64 0, .bool false]) (by simp [results, Tryz.results126, go_sem]) rfl ⟨by rw [HO.out]; rfl, by have := HT4.out; (repeat (first | with_reducible exact Touch.refl _ _ | with_reducible assumption | with_reducible apply Touch.alloc | with_reducible apply Touch.drewN | with_reducible apply Touch.drew | with_reducible refine Touch.setCell ?_ (.inr (by first | omega | (simp; done) | (simp; omega))) _))⟩
  · obtain ⟨X, hX⟩ : ∃ X, (a - 1) / c.c1 = X := ⟨_, rfl⟩
    obtain ⟨Y, hY⟩ : ∃ Y, (a - 1 - (a - 1) / c.c1 * c.c1) / clsSize K = Y := ⟨_, rfl⟩
    obtain ⟨Z, hZ⟩ : ∃ Z, (a - 1 - (a - 1) / c.c1 * c.c1) % clsSize K = Z := ⟨_, rfl⟩
    rw [show fdV c.c1 K a true = PlV X Y Z by rw [← hX, ← hY, ← hZ]; rfl]
    rw [hZ] at he1
    have HB := Lib.hid (he2 rfl)
    cases G
    · have HO : Hid (ownB c ks a = false) := by show _ = _; rw [he1]; rfl
      clear he1 he2 he3 hB hK hG hF hX hY hZ
      go_wp2
      refine bodyPost_ret (v := .tuple #[.int .i64 0, .int .i64 0, .bool false]) (by simp [results, Tryz.results126, go_sem]) rfl ⟨by rw [HO.out]; rfl, by have := HT4.out; (repeat (first | with_reducible exact Touch.refl _ _ | with_reducible assumption | with_reducible apply Touch.alloc | with_reducible apply Touch.drewN | with_reducible apply Touch.drew | with_reducible refine Touch.setCell ?_ (.inr (by first | omega | (simp; done) | (simp; omega))) _))⟩
    · have HK := Lib.hid (he3 rfl)
      by_cases hz : Z = 0
      · have HO : Hid (ownB c ks a = true) := by show _ = _; rw [he1, decide_eq_true hz]; rfl
        clear he1 he2 he3 hB hK hG hF hX hY hZ
        go_wp2
        refine bodyPost_ret (v := .tuple #[.int .i64 B, .int .i64 K, .bool true]) (by simp [results, Tryz.results126, go_sem]) rfl ⟨by rw [HO.out]; unfold owV; rw [← HB.out, ← HK.out], by have := HT4.out; (repeat (first | with_reducible exact Touch.refl _ _ | with_reducible assumption | with_reducible apply Touch.alloc | with_reducible apply Touch.drewN | with_reducible apply Touch.drew | with_reducible refine Touch.setCell ?_ (.inr (by first | omega | (simp; done) | (simp; omega))) _))⟩
      · have HO : Hid (ownB c ks a = false) := by show _ = _; rw [he1, decide_eq_false hz]; rfl
        clear he1 he2 he3 hB hK hG hF hX hY hZ
        go_wp2
        refine bodyPost_ret (v := .tuple #[.int .i64 0, .int .i64 0, .bool false]) (by simp [results, Tryz.results126, go_sem]) rfl ⟨by rw [HO.out]; rfl, by have := HT4.out; (repeat (first | with_reducible exact Touch.refl _ _ | with_reducible assumption | with_reducible apply Touch.alloc | with_reducible apply Touch.drewN | with_reducible apply Touch.drew | with_reducible refine Touch.setCell ?_ (.inr (by first | omega | (simp; done) | (simp; omega))) _))⟩
end Go.Proofs.YtflhjbmoncbomaaGreatDoor
