/- The heap's slots: Take, Put, Assign, Begin, Bear, walked. Conditions: the tables of limits and of sizes read as laid. The heap's objects: object's two refusals, and Fields, walked. Conditions: the tables of limits and of sizes read as laid. The heap's fields: what Load and Store do with an object's, walked. Conditions: the tables of limits and of sizes read as laid. The heap's object, with what is done to it; Load and Store of any address, walked. Conditions: the tables of limits and of sizes read as laid. The heap's slots, whatever is asked: Take, Assign, Put, Begin, Bear, Free, walked. Conditions: the tables of limits and of sizes read as laid. The heap's slots, whatever is asked: Take, Assign, Begin, Bear, walked. Conditions: the tables of limits and of sizes read as laid. -/
import Derived.Test.YtnobempbcdkoaaaGreatDoorHpA
import Derived.Deep.RegionHeld3
namespace Go.Proofs.YtnobempbcdkoaaaGreatDoor
open Go.RowKit

/-- A heap, and what it means. -/
structure HpI (W w : World) (A : HA) (c : Cf) (S : HS) (H : Nat → List Nat) : Prop where
  at' : HpAt W w A c S
  inv : HInv c S H
  laid : Laid W
variable {W w w' : World} {A : HA} {c : Cf} {S : HS} {H : Nat → List Nat}
theorem HpI.old (h : HpI W w A c S H) (ht : Touch nob w w') : HpI W w' A c S H := ⟨h.at'.old ht, h.inv, h.laid⟩
theorem HpI.ll (h : HpI W w A c S H) : LL W w A.L c S.s H := ⟨h.at'.ls, h.inv.li, h.laid⟩
theorem HpI.lay (h : HpI W w A c S H) : Laid w := h.laid.old h.at'.base
theorem HpI.obj_nat (_ : HpI W w A c S H) {j : Nat} (hj : j < S.s.ws.length) : S.obj (j + 1) = S.B (j + 1) := by
  unfold HS.obj hasB mayB
  rw [decide_eq_true (show (0 : Int) ≤ (j : Int) + 1 by omega), decide_eq_true (show (j : Int) + 1 < ((S.s.ws.length + 1 : Nat) : Int) by omega), show ((j : Int) + 1).toNat = j + 1 by omega]
  rfl
theorem HpI.fre_nat (h : HpI W w A c S H) {j : Nat} (hj : j < S.s.ws.length) : S.fre (j + 1) = S.s.M (j + 1) := h.ll.has_nat hj
theorem HpI.hand_nat (h : HpI W w A c S H) {j : Nat} (ho : ownB c S.s.ks (j + 1) = true) (hM : S.s.M (j + 1) = false) (hB : S.B (j + 1) = false) : S.hand c (j + 1) = true := by
  have hj := h.inv.one ho
  unfold HS.hand HS.own
  rw [ho, h.obj_nat hj, h.fre_nat hj, hM, hB]
  rfl
theorem hp_Take_ok (j k : Nat) (L : List Nat) (h : HpI W w A c S H) (hk : k < 4) (hL : H k = j :: L) :
    Calls Tryz.prog 150 #[.pointer (some ⟨A.h, 0, none⟩), .int .i64 k] w fun e w' => e = .returned (.tuple #[.int .i64 (j + 1), .int .i64 0]) ∧ Touch (HT A) w w' ∧ HpI W w' A c { S with s := S.s.tak j k } (updH H k L) := by
  obtain ⟨cx, -, -, d2, -, -, -, -⟩ := h.at'.cells
  have HH := Lib.hid (And.intro h hL)
  clear h hL
  go_enter Tryz.func150, Tryz.ntmps150
  go_wp2_with (go_at_call 171; fail)
  refine (ll_Take_ok j k L HH.out.1.ll hk HH.out.2).mono ?_
  rintro e w1 ⟨rfl, hT1, h1⟩
  have H1 := Lib.hid (And.intro hT1 h1)
  clear hT1 h1
  go_wp2
  go_ret2
  exact ⟨rfl, H1.out.1.mono (fun _ _ x => LT_HT x), HH.out.1.at'.listsL H1.out.1 H1.out.2.ls rfl, HH.out.1.inv.tak hk HH.out.2, HH.out.1.laid⟩
theorem hp_Take_none (k : Nat) (h : HpI W w A c S H) (hk : k < 4) (hL : H k = []) :
    Calls Tryz.prog 150 #[.pointer (some ⟨A.h, 0, none⟩), .int .i64 k] w fun e w' => e = .returned (.tuple #[.int .i64 0, .int .i64 12]) ∧ w = w' := by
  obtain ⟨cx, -, -, d2, -, -, -, -⟩ := h.at'.cells
  have HH := Lib.hid (And.intro h hL)
  clear h hL
  go_enter Tryz.func150, Tryz.ntmps150
  go_wp2_with (go_at_call 171; fail)
  refine (ll_Take_none k HH.out.1.ll hk HH.out.2).mono ?_
  rintro e w1 ⟨rfl, rfl⟩
  go_wp2
  go_ret2
  exact ⟨rfl, rfl⟩
theorem hp_Put_hand (j k : Nat) (h : HpI W w A c S H) (hk : k < 4) (ho : ownB c S.s.ks (j + 1) = true) (hc : clsA c S.s.ks (j + 1) = k) (hM : S.s.M (j + 1) = false) (hB : S.B (j + 1) = false) :
    Calls Tryz.prog 153 #[.pointer (some ⟨A.h, 0, none⟩), .int .i64 (j + 1)] w fun e w' => e = .returned (.int .i64 0) ∧ Touch (HT A) w w' ∧ HpI W w' A c { S with s := S.s.put j k } (updH H k (j :: H k)) := by
  obtain ⟨cx, -, -, d2, d3, -, -, -⟩ := h.at'.cells
  have hj := h.inv.one ho
  have hob := h.at'.set_born ((j : Int) + 1)
  rw [h.obj_nat hj, hB] at hob
  have hnm : j ∉ H k := fun hm => by
    rw [(h.inv.li.of_own hk hj hc).2 hm] at hM
    cases hM
  have HH := Lib.hid (And.intro h (And.intro ho (And.intro hc (And.intro hM (And.intro hB (And.intro hj (And.intro hob hnm)))))))
  clear h ho hc hM hB hj hob hnm
  go_enter Tryz.func153, Tryz.ntmps153
  go_wp2_with (go_at_call 55; fail)
  refine HH.out.2.2.2.2.2.2.1.mono ?_
  rintro e w1 ⟨rfl, rfl⟩
  go_wp2_with (go_at_call 132; fail)
  refine (ll_Put_ok j k HH.out.1.ll HH.out.2.2.2.2.2.1 HH.out.2.1 hk HH.out.2.2.1 HH.out.2.2.2.2.2.2.2).mono ?_
  rintro e w1 ⟨rfl, hT1, h1⟩
  have H1 := Lib.hid (And.intro hT1 h1)
  clear hT1 h1
  go_wp2
  go_ret
  exact ⟨rfl, H1.out.1.mono (fun _ _ x => LT_HT x), HH.out.1.at'.listsL H1.out.1 H1.out.2.ls (List.length_set), HH.out.1.inv.put hk HH.out.2.1 HH.out.2.2.1 HH.out.2.2.2.1 HH.out.2.2.2.2.1, HH.out.1.laid⟩
/-- A slot's block that is assigned. -/
theorem LsAt.tab {ks' : List Int} {s : LS} {B : LA} {ct : Nat} (h : LsAt W w B c s) (ht : Touch (fun b => b = B.qt) w w') (hb : BlkAt w' B.pt B.qt ct B.n c ks') : LsAt W w' B c { s with ks := ks' } := by
  obtain ⟨⟨n1, n2, n3, n4, n5, n6⟩, ⟨n7, n8, n9, n10, n11⟩, ⟨n12, n13, n14, n15⟩, ⟨n16, n17, n18⟩, ⟨n19, n20⟩, n21⟩ := h.ne
  obtain ⟨ca, lo, st, a⟩ := h.ar
  obtain ⟨ci, wi, d⟩ := h.se
  obtain ⟨g1, g2, g3, g4, g5, g6, g7⟩ := h.ge
  exact ⟨h.base.step ht (fun i hi => .inr (by rw [hi]; exact g5)), h.hi, blk_touch h.box ht n4, ⟨ca, lo, st, a.touch ht n9 n13⟩, ⟨ct, hb⟩, ⟨ci, wi, d.touch ht n19.symm n20.symm⟩, h.len, h.wok, h.ap⟩
theorem hp_Assign_full (k : Nat) (h : HpI W w A c S H) (hk : k < 4) (hf : S.s.ks.length = A.L.n) :
    Calls Tryz.prog 151 #[.pointer (some ⟨A.h, 0, none⟩), .int .i64 k] w fun e w' => e = .returned (.tuple #[.slice none 0 0, .int .i64 10]) ∧ Touch nob w w' := by
  obtain ⟨cx, -, d1, -, -, -, -, -⟩ := h.at'.cells
  obtain ⟨ct, hb⟩ := h.at'.ls.tb
  have HB := Lib.hid (blk_Assign_full k hb (isCls_nat hk) hf)
  clear h hb hk hf
  go_enter Tryz.func151, Tryz.ntmps151
  go_wp2_with (go_at_call 172; fail)
  refine HB.out.mono ?_
  rintro e w1 ⟨rfl, hT1⟩
  have HT1 := Lib.hid hT1
  clear hT1
  go_wp2
  go_ret2
  exact ⟨rfl, HT1.out⟩
theorem hp_Assign_ok (k : Nat) (h : HpI W w A c S H) (hk : k < 4) (hf : S.s.ks.length < A.L.n) :
    Calls Tryz.prog 151 #[.pointer (some ⟨A.h, 0, none⟩), .int .i64 k] w fun e w' => ∃ v, e = .returned (.tuple #[v, .int .i64 0]) ∧ Touch (HT A) w w' ∧ HpI W w' A c { S with s := { S.s with ks := S.s.ks ++ [(k : Int)] } } H ∧ IntsIn w' v (sl c k S.s.ks.length) ∧ ∀ g, v.ownBlock = some g → w.heap.size ≤ g := by
  obtain ⟨cx, -, d1, -, -, -, -, -⟩ := h.at'.cells
  obtain ⟨ct, hb⟩ := h.at'.ls.tb
  have HB := Lib.hid (blk_Assign_ok k hb (isCls_nat hk) hf)
  have HH := Lib.hid h
  obtain ⟨m, hm⟩ : ∃ m, S.s.ks.length = m := ⟨_, rfl⟩
  have HM := Lib.hid hm
  rw [hm] at HB ⊢
  clear h hb hk hf hm
  go_enter Tryz.func151, Tryz.ntmps151
  go_wp2_with (go_at_call 172; fail)
  refine HB.out.mono ?_
  rintro e w1 ⟨rfl, hT1, hb1⟩
  have hT2 : Touch (HT A) w w1 := hT1.mono fun _ _ e => by rw [e]; exact all_at (A := A) 10
  have h1 : HpI W w1 A c { S with s := { S.s with ks := S.s.ks ++ [(k : Int)] } } H := ⟨HH.out.at'.lists hT1 (fun i hi => HH.out.at'.ne i 10 (by omega) (by decide) (by omega)) (HH.out.at'.ls.tab hT1 hb1) rfl, HH.out.inv.more k, HH.out.laid⟩
  obtain ⟨cx1, -, d1', -, -, -, -, -⟩ := h1.at'.cells
  have hsl := blk_Slots_ok m hb1 (by rw [List.length_append, HM.out]; simp) h1.lay.lim h1.lay.siz
  rw [show (S.s.ks ++ [(k : Int)]).getD m 0 = (k : Int) by rw [← HM.out]; exact getD_snoc] at hsl
  have H1 := Lib.hid (And.intro hT2 (And.intro h1 hsl))
  clear hT1 hb1 hT2 h1 hsl d1
  go_wp2_with (go_at_call 173; fail)
  refine H1.out.2.2.mono ?_
  rintro e w2 ⟨v, rfl, hT2, hI2, hg2⟩
  obtain ⟨ao, cp, rfl⟩ := hI2.shape
  have H2 := Lib.hid (And.intro hT2 (And.intro hI2 hg2))
  clear hT2 hI2 hg2
  go_wp2
  go_ret2
  exact ⟨_, rfl, H1.out.1.trans H2.out.1.hnob, H1.out.2.1.old H2.out.1, H2.out.2.1, fun g hg => Nat.le_trans H1.out.1.size (H2.out.2.2 g hg)⟩
theorem header_ObjectV (k n : Int) (h : objOk k n = true) (w : World) (hS : Sizes w) :
    Calls Tryz.prog 154 #[.int .i64 k, .int .i64 n] w fun e w' => e = .returned (.tuple #[.int .u64 (hObj k n), .bool true]) ∧ w = w' :=
  (header_Object k n w hS).mono fun _ _ g => ⟨by rw [g.1, h], g.2⟩
theorem hp_Begin_ok (j : Nat) (n : Int) (h : HpI W w A c S H) (ho : ownB c S.s.ks (j + 1) = true) (hM : S.s.M (j + 1) = false) (hB : S.B (j + 1) = false) (hn : objOk (clsA c S.s.ks (j + 1)) n = true) :
    Calls Tryz.prog 124 #[.pointer (some ⟨A.h, 0, none⟩), .int .i64 (j + 1), .int .i64 n] w fun e w' => e = .returned (.int .i64 0) ∧ Touch (HT A) w w' ∧ HpI W w' A c (S.setw j (hObj (clsA c S.s.ks (j + 1)) n)) H := by
  have hhand := heap_hand ((j : Int) + 1) h.at' h.laid
  rw [h.hand_nat ho hM hB, show S.kls c ((j : Int) + 1) = clsA c S.s.ks ((j : Int) + 1) by unfold HS.kls; rw [show S.own c ((j : Int) + 1) = true from ho]] at hhand
  obtain ⟨K, hK⟩ : ∃ K, clsA c S.s.ks ((j : Int) + 1) = K := ⟨_, rfl⟩
  have hinv := h.inv.head ho hM hn
  rw [hK] at hhand hinv hn ⊢
  have hof := obj_facts hn
  have HH := Lib.hid (And.intro h (And.intro hhand (And.intro hinv (And.intro hn (And.intro (h.inv.one ho) hof)))))
  clear h hhand hinv hn ho hM hB hof hK
  go_enter Tryz.func124, Tryz.ntmps124
  go_wp2_with (go_at_call 105; fail)
  refine HH.out.2.1.mono ?_
  rintro e w1 ⟨rfl, hT1⟩
  have H1 := Lib.hid (And.intro hT1 (HH.out.1.old hT1))
  clear hT1
  go_wp2_with (go_at_call 154; fail)
  refine (header_ObjectV K n HH.out.2.2.2.1 w1 H1.out.2.lay.siz).mono ?_
  rintro e w2 ⟨rfl, rfl⟩
  obtain ⟨cx, d0, -⟩ := H1.out.2.at'.cells
  obtain ⟨x, hx⟩ : ∃ x, hObj K n = x := ⟨_, rfl⟩
  have hst := H1.out.2.at'.store j x HH.out.2.2.2.2.1 (by rw [← hx]; exact ⟨HH.out.2.2.2.2.2.1, HH.out.2.2.2.2.2.2.1⟩)
  have hiv := HH.out.2.2.1
  rw [hx] at hiv ⊢
  have HX := Lib.hid (And.intro hst (And.intro hiv hx))
  clear hx hst hiv
  go_wp2_with (go_at_call 93; fail)
  refine HX.out.1.mono ?_
  rintro e w2 ⟨rfl, hT2, h2⟩
  have H2 := Lib.hid (And.intro (H1.out.1.hnob.trans hT2) h2)
  clear hT2 h2
  go_wp2
  go_ret
  refine ⟨rfl, H2.out.1, ?_⟩
  rw [HX.out.2.2]
  exact ⟨H2.out.2, HX.out.2.1, HH.out.1.laid⟩
theorem putM_nat {M : Nat → Bool} {size j : Nat} (b : Bool) (h : j + 1 < size) : putM M size ((j : Int) + 1) b = fun x => if x = j + 1 then b else M x := by
  funext x
  unfold putM mayB
  rw [decide_eq_true (show (0 : Int) ≤ (j : Int) + 1 by omega), decide_eq_true (show (j : Int) + 1 < ((size : Nat) : Int) by omega), show ((j : Int) + 1).toNat = j + 1 by omega]
  simp
theorem HpI.begun_nat (_ : HpI W w A c S H) {j : Nat} (hj : j < S.s.ws.length) : S.word (j + 1) = S.s.ws.getD j 0 := by
  unfold HS.word
  rw [if_pos ⟨by omega, by omega⟩, show ((j : Int) + 1 - 1).toNat = j by omega]
theorem hp_Bear_ok (j : Nat) (n : Int) (h : HpI W w A c S H) (hn : n = 0 ∨ n = 1) (ho : ownB c S.s.ks (j + 1) = true) (hM : S.s.M (j + 1) = false) (hB : S.B (j + 1) = false) (hb : isObjW (S.s.ws.getD j 0) = true) :
    Calls Tryz.prog 125 #[.pointer (some ⟨A.h, 0, none⟩), .int .i64 (j + 1), .int .i64 n] w fun e w' => e = .returned (.int .i64 0) ∧ Touch (HT A) w w' ∧ HpI W w' A c { S with B := fun x => if x = j + 1 then true else S.B x, K := fun x => if x = j + 1 then decide (n = 1) else S.K x } H := by
  have hj := h.inv.one ho
  have hhand := heap_hand ((j : Int) + 1) h.at' h.laid
  rw [h.hand_nat ho hM hB] at hhand
  have hhd := fun w1 (h1 : HpAt W w1 A c S) => heap_header ((j : Int) + 1) h1 h.laid
  rw [show S.begun ((j : Int) + 1) = true by unfold HS.begun; rw [h.begun_nat hj]; exact hb] at hhd
  have hpb := fun w1 (h1 : HpAt W w1 A c S) => h1.put_born ((j : Int) + 1) true
  rw [putM_nat true (by omega)] at hpb
  obtain ⟨B', hB'⟩ : ∃ B', (fun x => if x = j + 1 then true else S.B x) = B' := ⟨_, rfl⟩
  rw [hB'] at hpb
  have hpc := fun w1 (h1 : HpAt W w1 A c { S with B := B' }) => h1.put_color ((j : Int) + 1) (decide (n = 1))
  dsimp only at hpc
  rw [putM_nat (decide (n = 1)) (by omega)] at hpc
  have hiv := h.inv.bear ho hM hb (fun x => if x = j + 1 then decide (n = 1) else S.K x)
  rw [hB'] at hiv ⊢
  obtain ⟨K, hK⟩ : ∃ K, S.kls c ((j : Int) + 1) = K := ⟨_, rfl⟩
  obtain ⟨f, hf⟩ : ∃ f, S.flds ((j : Int) + 1) = f := ⟨_, rfl⟩
  obtain ⟨b1, hb1⟩ : ∃ b, putB S.B (S.s.ws.length + 1) ((j : Int) + 1) true = b := ⟨_, rfl⟩
  obtain ⟨b2, hb2⟩ : ∃ b, putB S.K (S.s.ws.length + 1) ((j : Int) + 1) (decide (n = 1)) = b := ⟨_, rfl⟩
  rw [hK] at hhand
  rw [hf] at hhd
  rw [hb1] at hpb
  have hpc : ∀ w1, HpAt W w1 A c { S with B := B' } → Calls Tryz.prog 99 #[.pointer (some ⟨A.pc, 0, none⟩), .int .i64 (j + 1), .bool (decide (n = 1))] w1 fun e w' => e = .returned (.bool b2) ∧ Touch (HT A) w1 w' ∧ HpAt W w' A c { S with B := B', K := fun x => if x = j + 1 then decide (n = 1) else S.K x } := fun w1 h1 => by
    have := hpc w1 h1
    rwa [hb2] at this
  have HH := Lib.hid (And.intro h (And.intro hhand (And.intro hhd (And.intro hpb (And.intro hpc hiv)))))
  clear h hhand hhd hpb hpc hiv hK hf hb1 hb2 hj ho hM hB hb hB'
  have hcol : decide (n = 0) || decide (n = 1) = true := by rcases hn with rfl | rfl <;> rfl
  have HCol := Lib.hid hcol
  clear hcol
  rcases hn with rfl | rfl
  all_goals
    go_enter Tryz.func125, Tryz.ntmps125
    go_wp2_with (go_at_call 105; fail)
    refine HH.out.2.1.mono ?_
    rintro e w1 ⟨rfl, hT1⟩
    have H1 := Lib.hid (And.intro hT1 (HH.out.1.at'.old hT1))
    clear hT1
    go_wp2_with (go_at_call 114; fail)
    refine (heap_color _ w1).mono ?_
    rintro e w2 ⟨rfl, rfl⟩
    go_wp2_with (go_at_call 106; fail)
    refine (HH.out.2.2.1 w1 H1.out.2).mono ?_
    rintro e w2 ⟨rfl, hT2, h2⟩
    obtain ⟨cx, -, -, -, d3, -, -, -⟩ := h2.cells
    have H2 := Lib.hid (And.intro (H1.out.1.hnob.trans hT2) h2)
    clear hT2 h2
    go_wp2_with (go_at_call 99; fail)
    refine (HH.out.2.2.2.1 w2 H2.out.2).mono ?_
    rintro e w3 ⟨rfl, hT3, h3⟩
    obtain ⟨cx, -, -, -, -, d4, -, -⟩ := h3.cells
    have H3 := Lib.hid (And.intro (H2.out.1.trans hT3) h3)
    clear hT3 h3 d3
    go_wp2_with (go_at_call 99; fail)
    refine (HH.out.2.2.2.2.1 w3 H3.out.2).mono ?_
    rintro e w4 ⟨rfl, hT4, h4⟩
    have H4 := Lib.hid (And.intro (H3.out.1.trans hT4) h4)
    clear hT4 h4
    go_wp2
    go_ret
    exact ⟨rfl, H4.out.1, H4.out.2, HH.out.2.2.2.2.2, HH.out.1.laid⟩
end Go.Proofs.YtnobempbcdkoaaaGreatDoor
namespace Go.Proofs.YtnobempbcdkoaaaGreatDoor
open Go.RowKit

variable {W w w' : World} {A : HA} {c : Cf} {S : HS}
/-- Whether an address is an object's, or a begun slot's in hand. -/
def HS.may (S : HS) (c : Cf) (a : Int) : Bool := S.obj a || (S.hand c a && S.begun a)
/-- What is new is none of a heap's. -/
theorem HpAt.aside (h : HpAt W w A c S) {b : Nat} (hb : w.heap.size ≤ b) : b ∉ A.all := fun hm => Nat.lt_irrefl _ (Nat.lt_of_lt_of_le (h.lt b hm) hb)
theorem HpAt.boxed (h : HpAt W w A c S) {b o : Nat} (hW : W.heap.size ≤ b) (hb : b ∉ A.all) (v : Value) : HpAt W (w.setCell ⟨b, o, none⟩ v) A c S :=
  h.touch (h.base.setCell (.inr hW) v) (Touch.setCell (S := fun j => j = b) (Touch.refl _ _) (.inl rfl) v) (fun _ hx e => hb (e ▸ hx))
theorem heap_object_zero (cl : Value) (b : Nat) (w : World) :
    Calls Tryz.prog 58 #[.pointer (some ⟨b, 0, none⟩), .int .i64 0, cl] w fun e w' => e = .returned (.int .i64 6) ∧ w = w' := by
  go_enter Tryz.func58, Tryz.ntmps58
  go_wp2
  go_ret
  exact ⟨rfl, rfl⟩
theorem heap_object_no (a : Int) (cl : Value) (h : HpAt W w A c S) (hL : Laid W) (ha : a ≠ 0) (hm : S.may c a = false) :
    Calls Tryz.prog 58 #[.pointer (some ⟨A.h, 0, none⟩), .int .i64 a, cl] w fun e w' => e = .returned (.int .i64 1) ∧ Touch (HT A) w w' ∧ HpAt W w' A c S := by
  obtain ⟨ob, hob⟩ : ∃ b, S.obj a = b := ⟨_, rfl⟩
  obtain ⟨hd, hhd⟩ : ∃ b, S.hand c a = b := ⟨_, rfl⟩
  obtain ⟨bg, hbg⟩ : ∃ b, S.begun a = b := ⟨_, rfl⟩
  unfold HS.may at hm
  rw [hob, hhd, hbg] at hm
  have hhand := fun w1 (h1 : HpAt W w1 A c S) => heap_hand a h1 hL
  rw [hhd] at hhand
  have hhead := fun w1 (h1 : HpAt W w1 A c S) => heap_header a h1 hL
  rw [hbg] at hhead
  have hborn := fun w1 (h1 : HpAt W w1 A c S) => h1.set_born a
  rw [hob] at hborn
  obtain ⟨K, hK⟩ : ∃ K, S.kls c a = K := ⟨_, rfl⟩
  obtain ⟨n, hn⟩ : ∃ n, S.flds a = n := ⟨_, rfl⟩
  rw [hK] at hhand
  rw [hn] at hhead
  have HO := Lib.hid (And.intro hhand (And.intro hhead hborn))
  have HW := Lib.hid h
  have hbools : ob = false ∧ ((hd = false ∧ bg = false) ∨ (hd = false ∧ bg = true) ∨ (hd = true ∧ bg = false)) := by cases ob <;> cases hd <;> cases bg <;> simp_all
  obtain ⟨rfl, hbb⟩ := hbools
  clear hhand hhead hborn hob hhd hbg hK hn hm h hL
  rcases hbb with ⟨rfl, rfl⟩ | ⟨rfl, rfl⟩ | ⟨rfl, rfl⟩
  all_goals
    go_enter Tryz.func58, Tryz.ntmps58
    go_wp2_with (go_at_call 105; fail)
    refine (HO.out.1 _ HW.out).mono ?_
    rintro e w1 ⟨rfl, hT1⟩
    have H1 := Lib.hid (And.intro hT1 (HW.out.old hT1))
    clear hT1
    go_wp2_with (go_at_call 106; fail)
    refine (HO.out.2.1 w1 H1.out.2).mono ?_
    rintro e w2 ⟨rfl, hT2, h2⟩
    obtain ⟨cx, -, -, -, d3, -, -, -⟩ := h2.cells
    have H2 := Lib.hid (And.intro (H1.out.1.hnob.trans hT2) h2)
    clear hT2 h2
    go_wp2_with (go_at_call 55; fail)
    refine (HO.out.2.2 w2 H2.out.2).mono ?_
    rintro e w3 ⟨rfl, rfl⟩
    clear d3
    go_wp2
    go_ret
    exact ⟨rfl, H2.out⟩
theorem heap_Fields_zero (h : HpAt W w A c S) :
    Calls Tryz.prog 49 #[.pointer (some ⟨A.h, 0, none⟩), .int .i64 0] w fun e w' => e = .returned (.tuple #[.int .i64 0, .int .i64 6]) ∧ Touch (HT A) w w' ∧ HpAt W w' A c S := by
  have hmf := hmkf
  have H := Lib.hid h
  clear h
  go_enter Tryz.func49, Tryz.ntmps49
  go_wp2_with (go_at_call 58; fail)
  refine (heap_object_zero _ _ _).mono ?_
  rintro e w1 ⟨rfl, rfl⟩
  go_wp2
  go_ret2
  have hT : Touch nob w (w.alloc (Obj.cells #[.int .i64 0] 3)) := by (repeat (first | with_reducible exact Touch.refl _ _ | with_reducible assumption | with_reducible apply Touch.alloc | with_reducible apply Touch.drewN | with_reducible apply Touch.drew | with_reducible refine Touch.setCell ?_ (.inr (by first | omega | (simp; done) | (simp; omega))) _))
  exact ⟨rfl, hT.hnob, H.out.old hT⟩
theorem heap_Fields_no (a : Int) (h : HpAt W w A c S) (hL : Laid W) (ha : a ≠ 0) (hm : S.may c a = false) :
    Calls Tryz.prog 49 #[.pointer (some ⟨A.h, 0, none⟩), .int .i64 a] w fun e w' => e = .returned (.tuple #[.int .i64 0, .int .i64 1]) ∧ Touch (HT A) w w' ∧ HpAt W w' A c S := by
  have hmf := hmkf
  have H := Lib.hid (And.intro h (And.intro hL (And.intro ha hm)))
  clear h hL ha hm
  go_enter Tryz.func49, Tryz.ntmps49
  go_wp2_with fail
  obtain ⟨W1, hW1⟩ : ∃ W1, W1 = w.alloc (Obj.cells #[.int .i64 0] 3) := ⟨_, rfl⟩
  obtain ⟨b, hb⟩ : ∃ b, b = w.heap.size := ⟨_, rfl⟩
  rw [← hW1, ← hb]
  have hbx : W1.heap[b]? = some (Obj.cells #[.int .i64 0] 3) := by rw [hW1, hb]; exact World.alloc_heap_new w _
  have hT1 : Touch nob w W1 := by rw [hW1]; (repeat (first | with_reducible exact Touch.refl _ _ | with_reducible assumption | with_reducible apply Touch.alloc | with_reducible apply Touch.drewN | with_reducible apply Touch.drew | with_reducible refine Touch.setCell ?_ (.inr (by first | omega | (simp; done) | (simp; omega))) _))
  have hbn : b ∉ A.all := by rw [hb]; exact H.out.1.aside (Nat.le_refl _)
  have H1 := Lib.hid (And.intro hT1 (And.intro hbx hbn))
  clear hW1 hb hbx hT1 hbn
  go_wp2_with (go_at_call 58; fail)
  refine (heap_object_no a _ (H.out.1.old H1.out.1) H.out.2.1 H.out.2.2.1 H.out.2.2.2).mono ?_
  rintro e w2 ⟨rfl, hT2, h2⟩
  have hbx2 := blk_touch H1.out.2.1 hT2 H1.out.2.2
  obtain ⟨cb, fb⟩ := box1 hbx2
  have H2 := Lib.hid (And.intro (H1.out.1.hnob.trans hT2) h2)
  clear hT2 h2 hbx2
  go_wp2
  go_ret2
  exact ⟨rfl, H2.out⟩
theorem heap_Fields_ok (a : Int) (h : HpAt W w A c S) (hL : Laid W) (ha : a ≠ 0) (hm : S.may c a = true) :
    Calls Tryz.prog 49 #[.pointer (some ⟨A.h, 0, none⟩), .int .i64 a] w fun e w' => e = .returned (.tuple #[.int .i64 (S.flds a), .int .i64 0]) ∧ Touch (HT A) w w' ∧ HpAt W w' A c S := by
  have hmf := hmkf
  obtain ⟨ob, hob⟩ : ∃ b, S.obj a = b := ⟨_, rfl⟩
  obtain ⟨hd, hhd⟩ : ∃ b, S.hand c a = b := ⟨_, rfl⟩
  obtain ⟨bg, hbg⟩ : ∃ b, S.begun a = b := ⟨_, rfl⟩
  unfold HS.may at hm
  rw [hob, hhd, hbg] at hm
  have hhand := fun w1 (h1 : HpAt W w1 A c S) => heap_hand a h1 hL
  rw [hhd] at hhand
  have hhead := fun w1 (h1 : HpAt W w1 A c S) => heap_header a h1 hL
  rw [hbg] at hhead
  have hborn := fun w1 (h1 : HpAt W w1 A c S) => h1.set_born a
  rw [hob] at hborn
  obtain ⟨K, hK⟩ : ∃ K, S.kls c a = K := ⟨_, rfl⟩
  obtain ⟨n, hn⟩ : ∃ n, S.flds a = n := ⟨_, rfl⟩
  rw [hK] at hhand
  rw [hn] at hhead
  rw [hn]
  have HO := Lib.hid (And.intro hhand (And.intro hhead hborn))
  obtain ⟨W1, hW1⟩ : ∃ W1, W1 = w.alloc (Obj.cells #[.int .i64 0] 3) := ⟨_, rfl⟩
  obtain ⟨b, hb⟩ : ∃ b, b = w.heap.size := ⟨_, rfl⟩
  have hbx : W1.heap[b]? = some (Obj.cells #[.int .i64 0] 3) := by rw [hW1, hb]; exact World.alloc_heap_new w _
  have hT1 : Touch nob w W1 := by rw [hW1]; (repeat (first | with_reducible exact Touch.refl _ _ | with_reducible assumption | with_reducible apply Touch.alloc | with_reducible apply Touch.drewN | with_reducible apply Touch.drew | with_reducible refine Touch.setCell ?_ (.inr (by first | omega | (simp; done) | (simp; omega))) _))
  have hbn : b ∉ A.all := by rw [hb]; exact h.aside (Nat.le_refl _)
  have hbW : W.heap.size ≤ b := by rw [hb]; exact h.base.size
  have HW := Lib.hid (h.old hT1)
  have HX := Lib.hid (And.intro hT1 (And.intro hbx (And.intro hbn (And.intro hbW hb))))
  have hbools : ob = true ∨ (ob = false ∧ (hd = true ∧ bg = true)) := by cases ob <;> cases hd <;> cases bg <;> simp_all
  clear hhand hhead hborn hob hhd hbg hK hn hm h hL hbx hT1 hbn hbW
  rcases hbools with rfl | ⟨rfl, rfl, rfl⟩
  all_goals
    go_enter Tryz.func49, Tryz.ntmps49
    go_wp2_with fail
    rw [← hW1, ← hb]
    clear hW1 hb
    go_wp2_with (go_at_call 58; fail)
    go_enter Tryz.func58, Tryz.ntmps58
    go_wp2_with (go_at_call 105; fail)
    refine (HO.out.1 _ HW.out).mono ?_
    rintro e w1 ⟨rfl, hT1⟩
    have H1 := Lib.hid (And.intro hT1 (HW.out.old hT1))
    clear hT1
    go_wp2_with (go_at_call 106; fail)
    refine (HO.out.2.1 w1 H1.out.2).mono ?_
    rintro e w2 ⟨rfl, hT2, h2⟩
    obtain ⟨cx, -, -, -, d3, -, -, -⟩ := h2.cells
    have H2 := Lib.hid (And.intro (H1.out.1.hnob.trans hT2) h2)
    clear hT2 h2
    go_wp2_with (go_at_call 55; fail)
    refine (HO.out.2.2 w2 H2.out.2).mono ?_
    rintro e w3 ⟨rfl, rfl⟩
    clear d3
    have hbx2 := blk_touch HX.out.2.1 H2.out.1 HX.out.2.2.1
    obtain ⟨cb, fb⟩ := box1 hbx2
    clear hbx2
    go_wp2
    go_ret2
    refine ⟨rfl, ?_, H2.out.2.boxed HX.out.2.2.2.1 HX.out.2.2.1 _⟩
    exact (HX.out.1.hnob.trans H2.out.1).setCell (.inr (Nat.le_of_eq HX.out.2.2.2.2.symm)) _
end Go.Proofs.YtnobempbcdkoaaaGreatDoor
namespace Go.Proofs.YtnobempbcdkoaaaGreatDoor
open Go.RowKit

variable {W w w' : World} {A : HA} {c : Cf} {S : HS}
/-- A box beside a heap. -/
structure Bx (w : World) (A : HA) (b : Nat) (v : Value) (t : TypeId) : Prop where
  at' : w.heap[b]? = some (Obj.cells #[v] t)
  no : b ∉ A.all
theorem Bx.touch {b : Nat} {v : Value} {t : TypeId} {T : Nat → Prop} (h : Bx w A b v t) (ht : Touch T w w') (hn : ¬ T b) : Bx w' A b v t := ⟨blk_touch h.at' ht hn, h.no⟩
theorem Bx.cell {b : Nat} {v : Value} {t : TypeId} (h : Bx w A b v t) : w.cell? ⟨b, 0, none⟩ = some v := one_cell h.at'
theorem Bx.free {b : Nat} {v : Value} {t : TypeId} (h : Bx w A b v t) : w.frozen? ⟨b, 0, none⟩ = false := one_free h.at'
theorem heap_Load1_no (n f : Int) (bf : Nat) (x y z : Value) (hb : Bx w A bf (.int .i64 f) 3) (hf : f < 0 ∨ n ≤ f) :
    Calls Tryz.prog 59 #[.int .i64 n, .pointer (some ⟨bf, 0, none⟩), x, y, z] w fun e w' => e = .returned (.int .i64 7) ∧ w = w' := by
  have hc := hb.cell
  clear hb
  by_cases h0 : f < 0
  · go_enter Tryz.func59, Tryz.ntmps59
    go_wp2
    go_ret
    exact ⟨rfl, rfl⟩
  · have h1 : f ≥ n := by omega
    go_enter Tryz.func59, Tryz.ntmps59
    go_wp2
    go_ret
    exact ⟨rfl, rfl⟩
set_option maxHeartbeats 1000000 in
set_option maxRecDepth 4000 in
theorem heap_Load1_ok (n f a : Int) (bf bh ba bw : Nat) (h : HpAt W w A c S) (hbf : Bx w A bf (.int .i64 f) 3) (hbh : Bx w A bh (.pointer (some ⟨A.h, 0, none⟩)) 31) (hba : Bx w A ba (.int .i64 a) 3) (hbw : Bx w A bw (.int .u64 0) 112) (hW : W.heap.size ≤ bw)
    (hne : bf ≠ bw ∧ bh ≠ bw ∧ ba ≠ bw) (hf : 0 ≤ f ∧ f < n) (hq : 0 ≤ a ∧ a + 1 + f ≤ 4611686018427387904) :
    Calls Tryz.prog 59 #[.int .i64 n, .pointer (some ⟨bf, 0, none⟩), .pointer (some ⟨bh, 0, none⟩), .pointer (some ⟨ba, 0, none⟩), .pointer (some ⟨bw, 0, none⟩)] w fun e w' => e = .returned (.int .i64 (atE S.s.ws.length (a + 1 + f))) ∧ Touch (fun i => HT A i ∨ i = bw) w w' ∧ HpAt W w' A c S ∧ w'.heap[bw]? = some (Obj.cells #[.int .u64 (S.word (a + 1 + f))] 112) := by
  obtain ⟨a1, ha1⟩ : ∃ a1, a + 1 = a1 := ⟨_, rfl⟩
  obtain ⟨a2, ha2⟩ : ∃ a2, a1 + f = a2 := ⟨_, rfl⟩
  have hw1 : IntKind.i64.wrap (a + 1) = a1 := by rw [ha1]; exact IntWalk.i64_in _ (by omega)
  have hw2 : IntKind.i64.wrap (a1 + f) = a2 := by rw [ha2]; exact IntWalk.i64_in _ (by omega)
  rw [ha1, ha2]
  clear hq ha1 ha2
  obtain ⟨x, hx⟩ : ∃ x, S.word a2 = x := ⟨_, rfl⟩
  obtain ⟨er, her⟩ : ∃ er, atE S.s.ws.length a2 = er := ⟨_, rfl⟩
  have hld := fun w1 (h1 : HpAt W w1 A c S) => h1.load a2
  rw [hx, her] at hld ⊢
  have HLd := Lib.hid hld
  have HP := Lib.hid (And.intro h (And.intro hbf (And.intro hbh (And.intro hba (And.intro hbw (And.intro hW hne))))))
  have HS := Lib.hid (fun w' (h' : HpAt W w' A c S) (ht : Touch (fun i => HT A i ∨ i = bw) w w') => show w'.cell? ⟨bf, 0, none⟩ = some (.int .i64 f) ∧ w'.cell? ⟨bh, 0, none⟩ = some (.pointer (some ⟨A.h, 0, none⟩)) ∧ w'.cell? ⟨ba, 0, none⟩ = some (.int .i64 a) ∧ w'.cell? ⟨A.h, 0, none⟩ = some (.pointer (some ⟨A.L.pa, 0, none⟩)) from by
    obtain ⟨_, k0, _⟩ := h'.cells
    exact ⟨one_cell (blk_touch hbf.at' ht (fun x => x.elim hbf.no hne.1)), one_cell (blk_touch hbh.at' ht (fun x => x.elim hbh.no hne.2.1)), one_cell (blk_touch hba.at' ht (fun x => x.elim hba.no hne.2.2)), k0⟩)
  have e0 := hbf.cell
  obtain ⟨f0, f1⟩ := hf
  have hfn : ¬ f < 0 := by omega
  have ew : w.frozen? ⟨bw, 0, none⟩ = false := hbw.free
  have ec : w.cell? ⟨bw, 0, none⟩ = some (.int .u64 0) := hbw.cell
  have HBW := Lib.hid (fun w' (ht : Touch (HT A) w w') => hbw.touch ht hbw.no)
  clear h hbf hbh hba hbw hld hx her hne hW
  go_enter Tryz.func59, Tryz.ntmps59
  go_wp2_with fail
  clear e0
  go_region_held3 (fun w' => w'.cell? ⟨bf, 0, none⟩ = some (.int .i64 f) ∧ w'.cell? ⟨bh, 0, none⟩ = some (.pointer (some ⟨A.h, 0, none⟩)) ∧ w'.cell? ⟨ba, 0, none⟩ = some (.int .i64 a) ∧ w'.cell? ⟨A.h, 0, none⟩ = some (.pointer (some ⟨A.L.pa, 0, none⟩))) (first | exact HS.out _ HP.out.1 (Touch.refl _ _) | exact HS.out _ (HP.out.1.old (Touch.drew (Touch.refl _ _))) (Touch.drew (Touch.refl _ _)) | exact HS.out _ H3.out.2.1 H3.out.1 | exact HS.out _ H4.out.2 H4.out.1) (first
    | (go_at_call 60; refine (HLd.out _ (HP.out.1.old (Touch.drew (Touch.refl _ _)))).mono ?_; rintro e w4 ⟨rfl, hT4, h4⟩; have H3 := Lib.hid (And.intro (Touch.trans (Touch.drew (Touch.refl (fun i => HT A i ∨ i = bw) w)) (hT4.mono (fun _ _ x => .inl x))) (And.intro h4 (HBW.out _ (Touch.trans (Touch.drew (Touch.refl _ w)) hT4)))); have H4 := Lib.hid (And.intro (H3.out.1.setCell (p := ⟨bw, 0, none⟩) (.inl (.inr rfl)) (.int .u64 x)) (h4.boxed (o := 0) HP.out.2.2.2.2.2.1 HP.out.2.2.2.2.1.no (.int .u64 x))); have e3 := H3.out.2.2.cell; have e4 := H3.out.2.2.free; clear hT4 h4))
  go_wp2
  go_ret
  exact ⟨rfl, H4.out.1, H4.out.2, set_one _ H3.out.2.2.at'⟩
theorem heap_Store1_no (n f : Int) (bf : Nat) (x y z : Value) (hb : Bx w A bf (.int .i64 f) 3) (hf : f < 0 ∨ n ≤ f) :
    Calls Tryz.prog 91 #[.int .i64 n, .pointer (some ⟨bf, 0, none⟩), x, y, z] w fun e w' => e = .returned (.int .i64 7) ∧ w = w' := by
  have hc := hb.cell
  clear hb
  by_cases h0 : f < 0
  · go_enter Tryz.func91, Tryz.ntmps91
    go_wp2
    go_ret
    exact ⟨rfl, rfl⟩
  · have h1 : f ≥ n := by omega
    go_enter Tryz.func91, Tryz.ntmps91
    go_wp2
    go_ret
    exact ⟨rfl, rfl⟩
theorem heap_Store1_bad (n f v : Int) (bf bh bv : Nat) (z : Value) (h : HpAt W w A c S) (hbf : Bx w A bf (.int .i64 f) 3) (hbh : Bx w A bh (.pointer (some ⟨A.h, 0, none⟩)) 31) (hbv : Bx w A bv (.int .i64 v) 3) (hf : 0 ≤ f ∧ f < n) (hv : v < 0 ∨ (S.s.ws.length : Int) < v) :
    Calls Tryz.prog 91 #[.int .i64 n, .pointer (some ⟨bf, 0, none⟩), .pointer (some ⟨bh, 0, none⟩), .pointer (some ⟨bv, 0, none⟩), z] w fun e w' => e = .returned (.int .i64 4) ∧ w = w' := by
  have e0 := hbf.cell
  have e1 := hbh.cell
  have e2 := hbv.cell
  have hval := heap_value v h
  have hvb : (decide (0 ≤ v) && decide (v ≤ S.s.ws.length)) = false := by
    rcases hv with hv | hv
    · rw [decide_eq_false (by omega)]; rfl
    · rw [decide_eq_false (show ¬ v ≤ S.s.ws.length by omega), Bool.and_false]
  rw [hvb] at hval
  have HV := Lib.hid hval
  obtain ⟨f0, f1⟩ := hf
  have hfn : ¬ f < 0 := by omega
  clear h hbf hbh hbv hval hvb hv
  go_enter Tryz.func91, Tryz.ntmps91
  go_wp2_with (go_at_call 92; fail)
  refine HV.out.mono ?_
  rintro e w1 ⟨rfl, rfl⟩
  go_wp2
  go_ret
  exact ⟨rfl, rfl⟩
theorem heap_Store1_ok (n f v : Int) (j : Nat) (bf bh bv ba : Nat) (h : HpAt W w A c S) (hbf : Bx w A bf (.int .i64 f) 3) (hbh : Bx w A bh (.pointer (some ⟨A.h, 0, none⟩)) 31) (hbv : Bx w A bv (.int .i64 v) 3) (hba : Bx w A ba (.int .i64 (j + 1)) 3) (hf : 0 ≤ f ∧ f < n) (hv : 0 ≤ v ∧ v ≤ (S.s.ws.length : Int)) (i : Nat) (hi : (i : Int) = j + 1 + f) (hil : i < S.s.ws.length) :
    Calls Tryz.prog 91 #[.int .i64 n, .pointer (some ⟨bf, 0, none⟩), .pointer (some ⟨bh, 0, none⟩), .pointer (some ⟨bv, 0, none⟩), .pointer (some ⟨ba, 0, none⟩)] w fun e w' => e = .returned (.int .i64 0) ∧ Touch (HT A) w w' ∧ HpAt W w' A c { S with s := { S.s with ws := S.s.ws.set i v } } := by
  have e0 := hbf.cell
  have e1 := hbh.cell
  have e2 := hbv.cell
  have e3 := hba.cell
  have hlen : S.s.ws.length ≤ 1048576 := by obtain ⟨_, _, _, h5⟩ := h.ls.ar; exact h5.len.2
  have hval := heap_value v h
  have hvb : (decide (0 ≤ v) && decide (v ≤ S.s.ws.length)) = true := by rw [decide_eq_true hv.1, decide_eq_true hv.2]; rfl
  rw [hvb] at hval
  obtain ⟨a, ha⟩ : ∃ a, (j : Int) + 1 = a := ⟨_, rfl⟩
  rw [ha] at e3
  obtain ⟨a1, ha1⟩ : ∃ a1, a + 1 = a1 := ⟨_, rfl⟩
  obtain ⟨a2, ha2⟩ : ∃ a2, a1 + f = a2 := ⟨_, rfl⟩
  have hw1 : IntKind.i64.wrap (a + 1) = a1 := by rw [ha1]; exact IntWalk.i64_in _ (by omega)
  have hw2 : IntKind.i64.wrap (a1 + f) = a2 := by rw [ha2]; exact IntWalk.i64_in _ (by omega)
  have hw3 : IntKind.u64.wrap v = v := IntWalk.u64_in _ (by omega)
  have HS := Lib.hid (fun w' (h' : HpAt W w' A c S) (ht : Touch (HT A) w w') => show w'.cell? ⟨bf, 0, none⟩ = some (.int .i64 f) ∧ w'.cell? ⟨bh, 0, none⟩ = some (.pointer (some ⟨A.h, 0, none⟩)) ∧ w'.cell? ⟨bv, 0, none⟩ = some (.int .i64 v) ∧ w'.cell? ⟨ba, 0, none⟩ = some (.int .i64 a) ∧ w'.cell? ⟨A.h, 0, none⟩ = some (.pointer (some ⟨A.L.pa, 0, none⟩)) from by
    obtain ⟨_, k0, _⟩ := h'.cells
    exact ⟨(hbf.touch ht hbf.no).cell, (hbh.touch ht hbh.no).cell, (hbv.touch ht hbv.no).cell, ha ▸ (hba.touch ht hba.no).cell, k0⟩)
  have hst := fun w1 (h1 : HpAt W w1 A c S) => h1.store i v hil (by omega)
  rw [show (i : Int) + 1 = (j : Int) + 1 + 1 + f by omega, ha, ha1, ha2] at hst
  have HH := Lib.hid (And.intro hval (And.intro hst h))
  have HB := Lib.hid (fun w' (ht : Touch (HT A) w w') (k0 : w'.cell? ⟨A.h, 0, none⟩ = some (.pointer (some ⟨A.L.pa, 0, none⟩))) => show w'.cell? ⟨bf, 0, none⟩ = some (.int .i64 f) ∧ w'.cell? ⟨bh, 0, none⟩ = some (.pointer (some ⟨A.h, 0, none⟩)) ∧ w'.cell? ⟨bv, 0, none⟩ = some (.int .i64 v) ∧ w'.cell? ⟨ba, 0, none⟩ = some (.int .i64 a) ∧ w'.cell? ⟨A.h, 0, none⟩ = some (.pointer (some ⟨A.L.pa, 0, none⟩)) from ⟨(hbf.touch ht hbf.no).cell, (hbh.touch ht hbh.no).cell, (hbv.touch ht hbv.no).cell, ha ▸ (hba.touch ht hba.no).cell, k0⟩)
  have HT0 : Hid (Touch (HT A) w w.drew) := Touch.drew (Touch.refl _ _)
  have HD : Hid (HpAt W w.drew A c S) := h.old (Touch.drew (Touch.refl _ _))
  obtain ⟨f0, f1⟩ := hf
  have hfn : ¬ f < 0 := by omega
  clear h hbf hbh hbv hba hval hvb hv hst hlen ha ha1 ha2 hi hil
  go_enter Tryz.func91, Tryz.ntmps91
  go_wp2_with (go_at_call 92; fail)
  refine HH.out.1.mono ?_
  rintro e w1 ⟨rfl, rfl⟩
  go_wp2_with fail
  clear e0 e1 e2 e3
  go_region_held3 (fun w' => w'.cell? ⟨bf, 0, none⟩ = some (.int .i64 f) ∧ w'.cell? ⟨bh, 0, none⟩ = some (.pointer (some ⟨A.h, 0, none⟩)) ∧ w'.cell? ⟨bv, 0, none⟩ = some (.int .i64 v) ∧ w'.cell? ⟨ba, 0, none⟩ = some (.int .i64 a) ∧ w'.cell? ⟨A.h, 0, none⟩ = some (.pointer (some ⟨A.L.pa, 0, none⟩))) (first | exact HS.out _ HH.out.2.2 (Touch.refl _ _) | exact HS.out _ HD.out HT0.out | exact HS4.out) (first
    | (go_at_call 93; refine (HH.out.2.1 _ HD.out).mono ?_; rintro e w4 ⟨rfl, hT4, h4⟩; have H4 := Lib.hid (And.intro (HT0.out.trans hT4) h4); obtain ⟨_, k0, _⟩ := h4.cells; have HS4 : Hid (w4.cell? ⟨bf, 0, none⟩ = some (.int .i64 f) ∧ w4.cell? ⟨bh, 0, none⟩ = some (.pointer (some ⟨A.h, 0, none⟩)) ∧ w4.cell? ⟨bv, 0, none⟩ = some (.int .i64 v) ∧ w4.cell? ⟨ba, 0, none⟩ = some (.int .i64 a) ∧ w4.cell? ⟨A.h, 0, none⟩ = some (.pointer (some ⟨A.L.pa, 0, none⟩))) := HB.out _ (HT0.out.trans hT4) k0; clear hT4 h4 k0))
  go_wp2
  go_ret
  exact ⟨rfl, H4.out⟩
end Go.Proofs.YtnobempbcdkoaaaGreatDoor
namespace Go.Proofs.YtnobempbcdkoaaaGreatDoor
open Go.RowKit

variable {W w w' : World} {A : HA} {c : Cf} {S : HS}
theorem heap_object_load (a : Int) (x1 x2 x3 x4 : Value) {R : Int → World → Prop} (h : HpAt W w A c S) (hL : Laid W) (ha : a ≠ 0) (hm : S.may c a = true) (hcl : ∀ w1, Touch (HT A) w w1 → HpAt W w1 A c S → Calls Tryz.prog 59 #[.int .i64 (S.flds a), x1, x2, x3, x4] w1 fun e w' => ∃ x, e = .returned (.int .i64 x) ∧ R x w') :
    Calls Tryz.prog 58 #[.pointer (some ⟨A.h, 0, none⟩), .int .i64 a, .func (.func 59) #[] #[x1, x2, x3, x4]] w fun e w' => ∃ x, e = .returned (.int .i64 x) ∧ R x w' := by
  obtain ⟨ob, hob⟩ : ∃ b, S.obj a = b := ⟨_, rfl⟩
  obtain ⟨hd, hhd⟩ : ∃ b, S.hand c a = b := ⟨_, rfl⟩
  obtain ⟨bg, hbg⟩ : ∃ b, S.begun a = b := ⟨_, rfl⟩
  unfold HS.may at hm
  rw [hob, hhd, hbg] at hm
  have hhand := fun w1 (h1 : HpAt W w1 A c S) => heap_hand a h1 hL
  rw [hhd] at hhand
  have hhead := fun w1 (h1 : HpAt W w1 A c S) => heap_header a h1 hL
  rw [hbg] at hhead
  have hborn := fun w1 (h1 : HpAt W w1 A c S) => h1.set_born a
  rw [hob] at hborn
  obtain ⟨K, hK⟩ : ∃ K, S.kls c a = K := ⟨_, rfl⟩
  obtain ⟨n, hn⟩ : ∃ n, S.flds a = n := ⟨_, rfl⟩
  rw [hK] at hhand
  rw [hn] at hhead hcl
  have HO := Lib.hid (And.intro hhand (And.intro hhead hborn))
  have HW := Lib.hid h
  have HCl := Lib.hid hcl
  have hbools : ob = true ∨ (ob = false ∧ (hd = true ∧ bg = true)) := by cases ob <;> cases hd <;> cases bg <;> simp_all
  clear hhand hhead hborn hob hhd hbg hK hn hm h hL hcl
  rcases hbools with rfl | ⟨rfl, rfl, rfl⟩
  all_goals
    go_enter Tryz.func58, Tryz.ntmps58
    go_wp2_with (go_at_call 105; fail)
    refine (HO.out.1 _ HW.out).mono ?_
    rintro e w1 ⟨rfl, hT1⟩
    have H1 := Lib.hid (And.intro hT1 (HW.out.old hT1))
    clear hT1
    go_wp2_with (go_at_call 106; fail)
    refine (HO.out.2.1 w1 H1.out.2).mono ?_
    rintro e w2 ⟨rfl, hT2, h2⟩
    obtain ⟨cx, -, -, -, d3, -, -, -⟩ := h2.cells
    have H2 := Lib.hid (And.intro (H1.out.1.hnob.trans hT2) h2)
    clear hT2 h2
    go_wp2_with (go_at_call 55; fail)
    refine (HO.out.2.2 w2 H2.out.2).mono ?_
    rintro e w3 ⟨rfl, rfl⟩
    clear d3
    go_wp2_with (go_at_call 59; fail)
    refine (HCl.out w2 H2.out.1 H2.out.2).mono ?_
    rintro e w4 ⟨x, rfl, hR⟩
    have HR := Lib.hid hR
    clear hR
    go_wp2
    go_ret
    exact ⟨x, rfl, HR.out⟩
theorem heap_object_store (a : Int) (x1 x2 x3 x4 : Value) {R : Int → World → Prop} (h : HpAt W w A c S) (hL : Laid W) (ha : a ≠ 0) (hm : S.may c a = true) (hcl : ∀ w1, Touch (HT A) w w1 → HpAt W w1 A c S → Calls Tryz.prog 91 #[.int .i64 (S.flds a), x1, x2, x3, x4] w1 fun e w' => ∃ x, e = .returned (.int .i64 x) ∧ R x w') :
    Calls Tryz.prog 58 #[.pointer (some ⟨A.h, 0, none⟩), .int .i64 a, .func (.func 91) #[] #[x1, x2, x3, x4]] w fun e w' => ∃ x, e = .returned (.int .i64 x) ∧ R x w' := by
  obtain ⟨ob, hob⟩ : ∃ b, S.obj a = b := ⟨_, rfl⟩
  obtain ⟨hd, hhd⟩ : ∃ b, S.hand c a = b := ⟨_, rfl⟩
  obtain ⟨bg, hbg⟩ : ∃ b, S.begun a = b := ⟨_, rfl⟩
  unfold HS.may at hm
  rw [hob, hhd, hbg] at hm
  have hhand := fun w1 (h1 : HpAt W w1 A c S) => heap_hand a h1 hL
  rw [hhd] at hhand
  have hhead := fun w1 (h1 : HpAt W w1 A c S) => heap_header a h1 hL
  rw [hbg] at hhead
  have hborn := fun w1 (h1 : HpAt W w1 A c S) => h1.set_born a
  rw [hob] at hborn
  obtain ⟨K, hK⟩ : ∃ K, S.kls c a = K := ⟨_, rfl⟩
  obtain ⟨n, hn⟩ : ∃ n, S.flds a = n := ⟨_, rfl⟩
  rw [hK] at hhand
  rw [hn] at hhead hcl
  have HO := Lib.hid (And.intro hhand (And.intro hhead hborn))
  have HW := Lib.hid h
  have HCl := Lib.hid hcl
  have hbools : ob = true ∨ (ob = false ∧ (hd = true ∧ bg = true)) := by cases ob <;> cases hd <;> cases bg <;> simp_all
  clear hhand hhead hborn hob hhd hbg hK hn hm h hL hcl
  rcases hbools with rfl | ⟨rfl, rfl, rfl⟩
  all_goals
    go_enter Tryz.func58, Tryz.ntmps58
    go_wp2_with (go_at_call 105; fail)
    refine (HO.out.1 _ HW.out).mono ?_
    rintro e w1 ⟨rfl, hT1⟩
    have H1 := Lib.hid (And.intro hT1 (HW.out.old hT1))
    clear hT1
    go_wp2_with (go_at_call 106; fail)
    refine (HO.out.2.1 w1 H1.out.2).mono ?_
    rintro e w2 ⟨rfl, hT2, h2⟩
    obtain ⟨cx, -, -, -, d3, -, -, -⟩ := h2.cells
    have H2 := Lib.hid (And.intro (H1.out.1.hnob.trans hT2) h2)
    clear hT2 h2
    go_wp2_with (go_at_call 55; fail)
    refine (HO.out.2.2 w2 H2.out.2).mono ?_
    rintro e w3 ⟨rfl, rfl⟩
    clear d3
    go_wp2_with (go_at_call 91; fail)
    refine (HCl.out w2 H2.out.1 H2.out.2).mono ?_
    rintro e w4 ⟨x, rfl, hR⟩
    have HR := Lib.hid hR
    clear hR
    go_wp2
    go_ret
    exact ⟨x, rfl, HR.out⟩
theorem alloc4 (w : World) (o0 o1 o2 o3 : Obj) : let W := (((w.alloc o0).alloc o1).alloc o2).alloc o3
    W.heap[w.heap.size]? = some o0 ∧ W.heap[w.heap.size + 1]? = some o1 ∧ W.heap[w.heap.size + 2]? = some o2 ∧ W.heap[w.heap.size + 3]? = some o3 := by
  have s1 : (w.alloc o0).heap.size = w.heap.size + 1 := World.size_alloc ..
  have s2 : ((w.alloc o0).alloc o1).heap.size = w.heap.size + 2 := by rw [World.size_alloc, s1]
  have s3 : (((w.alloc o0).alloc o1).alloc o2).heap.size = w.heap.size + 3 := by rw [World.size_alloc, s2]
  refine ⟨?_, ?_, ?_, ?_⟩
  · exact (Below.heap_alloc _ _ _ (by omega)).trans ((Below.heap_alloc _ _ _ (by omega)).trans ((Below.heap_alloc _ _ _ (by omega)).trans (World.alloc_heap_new w o0)))
  · exact (Below.heap_alloc _ _ _ (by omega)).trans ((Below.heap_alloc _ _ _ (by omega)).trans (by rw [← s1]; exact World.alloc_heap_new (w.alloc o0) o1))
  · exact (Below.heap_alloc _ _ _ (by omega)).trans (by rw [← s2]; exact World.alloc_heap_new ((w.alloc o0).alloc o1) o2)
  · rw [← s3]; exact World.alloc_heap_new _ o3
/-- Four boxes beside a heap. -/
structure Box4 (W w w' : World) (A : HA) (b : Nat) (v0 v1 v2 v3 : Value) (t0 t1 t2 t3 : TypeId) : Prop where
  touch : Touch nob w w'
  hb : w.heap.size ≤ b
  hW : W.heap.size ≤ b
  c0 : Bx w' A b v0 t0
  c1 : Bx w' A (b + 1) v1 t1
  c2 : Bx w' A (b + 2) v2 t2
  c3 : Bx w' A (b + 3) v3 t3
theorem HpAt.box4 (h : HpAt W w A c S) (v0 v1 v2 v3 : Value) (t0 t1 t2 t3 : TypeId) : Box4 W w ((((w.alloc (Obj.cells #[v0] t0)).alloc (Obj.cells #[v1] t1)).alloc (Obj.cells #[v2] t2)).alloc (Obj.cells #[v3] t3)) A w.heap.size v0 v1 v2 v3 t0 t1 t2 t3 := by
  obtain ⟨h0, h1, h2, h3⟩ := alloc4 w (Obj.cells #[v0] t0) (Obj.cells #[v1] t1) (Obj.cells #[v2] t2) (Obj.cells #[v3] t3)
  exact ⟨by (repeat (first | with_reducible exact Touch.refl _ _ | with_reducible assumption | with_reducible apply Touch.alloc | with_reducible apply Touch.drewN | with_reducible apply Touch.drew | with_reducible refine Touch.setCell ?_ (.inr (by first | omega | (simp; done) | (simp; omega))) _)), Nat.le_refl _, h.base.size, ⟨h0, h.aside (Nat.le_refl _)⟩, ⟨h1, h.aside (by omega)⟩, ⟨h2, h.aside (by omega)⟩, ⟨h3, h.aside (by omega)⟩⟩
/-- What is told of an address that isn't, or is, an object's. -/
def HS.objE (S : HS) (c : Cf) (a : Int) : Int := if a = 0 then 6 else if S.may c a then 0 else 1
def HS.fldV (S : HS) (c : Cf) (a : Int) : Int := if S.objE c a = 0 then S.flds a else 0
theorem heap_Fields (a : Int) (h : HpAt W w A c S) (hL : Laid W) :
    Calls Tryz.prog 49 #[.pointer (some ⟨A.h, 0, none⟩), .int .i64 a] w fun e w' => e = .returned (.tuple #[.int .i64 (S.fldV c a), .int .i64 (S.objE c a)]) ∧ Touch (HT A) w w' ∧ HpAt W w' A c S := by
  unfold HS.fldV HS.objE
  by_cases ha : a = 0
  · subst ha
    exact heap_Fields_zero h
  · rw [if_neg ha]
    by_cases hm : S.may c a = true
    · rw [if_pos hm]
      exact heap_Fields_ok a h hL ha hm
    · rw [if_neg hm]
      exact heap_Fields_no a h hL ha (by simpa using hm)
/-- Why a field isn't loaded. -/
def HS.ldE (S : HS) (c : Cf) (a f : Int) : Int := if S.objE c a = 0 then (if 0 ≤ f ∧ f < S.flds a then atE S.s.ws.length (a + 1 + f) else 7) else S.objE c a
def HS.ldV (S : HS) (c : Cf) (a f : Int) : Int := if S.objE c a = 0 ∧ 0 ≤ f ∧ f < S.flds a then wrap64 (S.word (a + 1 + f)) else 0
theorem HS.may_bd (h : HpAt W w A c S) {a : Int} (hm : S.may c a = true) : 0 ≤ a ∧ a ≤ S.s.ws.length := by
  unfold HS.may at hm
  simp only [Bool.or_eq_true, Bool.and_eq_true] at hm
  rcases hm with h1 | h1
  · unfold HS.obj hasB at h1
    simp only [Bool.and_eq_true] at h1
    obtain ⟨k, rfl, hk⟩ := may_nat h1.1
    omega
  · obtain ⟨h1, -⟩ := h1
    unfold HS.hand HS.own at h1
    simp only [Bool.and_eq_true] at h1
    have h2 := own_bd h1.1
    have := h.ls.len
    omega
theorem HS.len_le (h : HpAt W w A c S) : S.s.ws.length ≤ 1048576 := by obtain ⟨_, _, _, h5⟩ := h.ls.ar; exact h5.len.2
theorem flds_bd (x : Int) : 0 ≤ fldW x ∧ fldW x < 256 := by unfold fldW; split <;> omega
theorem HS.flds_bd (S : HS) (a : Int) : 0 ≤ S.flds a ∧ S.flds a < 256 := Go.Proofs.YtnobempbcdkoaaaGreatDoor.flds_bd _
theorem heap_Load (a f : Int) (h : HpAt W w A c S) (hL : Laid W) :
    Calls Tryz.prog 25 #[.pointer (some ⟨A.h, 0, none⟩), .int .i64 a, .int .i64 f] w fun e w' => e = .returned (.tuple #[.int .i64 (S.ldV c a f), .int .i64 (S.ldE c a f)]) ∧ Touch (HT A) w w' ∧ HpAt W w' A c S := by
  have hmf := hmkf
  obtain ⟨W1, hW1⟩ : ∃ W1, W1 = (((w.alloc (Obj.cells #[.pointer (some ⟨A.h, 0, none⟩)] 31)).alloc (Obj.cells #[.int .i64 a] 3)).alloc (Obj.cells #[.int .i64 f] 3)).alloc (Obj.cells #[.int .u64 0] 112) := ⟨_, rfl⟩
  have hB4 : Box4 W w W1 A w.heap.size (.pointer (some ⟨A.h, 0, none⟩)) (.int .i64 a) (.int .i64 f) (.int .u64 0) 31 3 3 112 := by rw [hW1]; exact h.box4 _ _ _ _ _ _ _ _
  obtain ⟨b, hb⟩ : ∃ b, b = w.heap.size := ⟨_, rfl⟩
  rw [← hb] at hB4
  -- what object tells
  obtain ⟨V, hV⟩ : ∃ V, (if S.objE c a = 0 ∧ 0 ≤ f ∧ f < S.flds a then S.word (a + 1 + f) else 0) = V := ⟨_, rfl⟩
  have hVb : 0 ≤ V ∧ V < 18446744073709551616 := by
    have := HS.word_bd h (a + 1 + f)
    rw [← hV]
    split <;> omega
  have hVl : S.ldV c a f = wrap64 V := by
    unfold HS.ldV
    rw [← hV]
    split
    · rfl
    · unfold wrap64; rfl
  obtain ⟨E, hE⟩ : ∃ E, S.ldE c a f = E := ⟨_, rfl⟩
  rw [hVl, hE]
  have hobj : Calls Tryz.prog 58 #[.pointer (some ⟨A.h, 0, none⟩), .int .i64 a, .func (.func 59) #[] #[.pointer (some ⟨b + 2, 0, none⟩), .pointer (some ⟨b, 0, none⟩), .pointer (some ⟨b + 1, 0, none⟩), .pointer (some ⟨b + 3, 0, none⟩)]] W1 fun e w' => e = .returned (.int .i64 E) ∧ Touch (fun i => HT A i ∨ i = b + 3) W1 w' ∧ HpAt W w' A c S ∧ w'.heap[b + 3]? = some (Obj.cells #[.int .u64 V] 112) := by
    have h1 := h.old hB4.touch
    by_cases ha : a = 0
    · subst ha
      refine (heap_object_zero _ _ _).mono ?_
      rintro e w' ⟨rfl, rfl⟩
      have h6 : S.objE c 0 = 6 := rfl
      have hV0 : V = 0 := by rw [← hV, h6]; rfl
      have hE0 : E = 6 := by rw [← hE]; unfold HS.ldE; rw [h6]; rfl
      subst hV0 hE0
      exact ⟨rfl, Touch.refl _ _, h1, hB4.c3.at'⟩
    · by_cases hm : S.may c a = true
      · have h0 : S.objE c a = 0 := by unfold HS.objE; rw [if_neg ha, if_pos hm]
        have hmb := HS.may_bd h hm
        have hln := HS.len_le h
        have hfb := HS.flds_bd S a
        refine (heap_object_load (R := fun x w' => x = E ∧ Touch (fun i => HT A i ∨ i = b + 3) W1 w' ∧ HpAt W w' A c S ∧ w'.heap[b + 3]? = some (Obj.cells #[.int .u64 V] 112)) a _ _ _ _ h1 hL ha hm ?_).mono ?_
        · intro w1 hT1 h1'
          by_cases hf : 0 ≤ f ∧ f < S.flds a
          · have hV1 : S.word (a + 1 + f) = V := by rw [← hV, if_pos ⟨h0, hf⟩]
            have hE1 : atE S.s.ws.length (a + 1 + f) = E := by rw [← hE]; unfold HS.ldE; rw [if_pos h0, if_pos hf]
            refine (heap_Load1_ok (S.flds a) f a (b + 2) b (b + 1) (b + 3) h1' (hB4.c2.touch hT1 hB4.c2.no) (hB4.c0.touch hT1 hB4.c0.no) (hB4.c1.touch hT1 hB4.c1.no) (hB4.c3.touch hT1 hB4.c3.no) (Nat.le_trans hB4.hW (by omega)) ⟨by omega, by omega, by omega⟩ hf ⟨hmb.1, by omega⟩).mono ?_
            rintro e w2 ⟨rfl, g1, g2, g3⟩
            rw [hV1] at g3
            exact ⟨_, rfl, hE1, Touch.trans (hT1.mono fun _ _ x => .inl x) g1, g2, g3⟩
          · have hV1 : V = 0 := by rw [← hV, if_neg (fun x => hf x.2)]
            have hE1 : E = 7 := by rw [← hE]; unfold HS.ldE; rw [if_pos h0, if_neg hf]
            refine (heap_Load1_no (S.flds a) f (b + 2) _ _ _ (hB4.c2.touch hT1 hB4.c2.no) (by omega)).mono ?_
            rintro e w2 ⟨rfl, rfl⟩
            subst hV1 hE1
            exact ⟨_, rfl, rfl, hT1.mono fun _ _ x => .inl x, h1', (hB4.c3.touch hT1 hB4.c3.no).at'⟩
        · rintro e w' ⟨x, rfl, rfl, g⟩
          exact ⟨rfl, g⟩
      · have h0 : S.objE c a = 1 := by unfold HS.objE; rw [if_neg ha, if_neg hm]
        have hV0 : V = 0 := by rw [← hV, h0]; rfl
        have hE0 : E = 1 := by rw [← hE]; unfold HS.ldE; rw [h0]; rfl
        refine (heap_object_no a _ h1 hL ha (by simpa using hm)).mono ?_
        rintro e w' ⟨rfl, g1, g2⟩
        subst hV0 hE0
        exact ⟨rfl, g1.mono fun _ _ x => .inl x, g2, (hB4.c3.touch g1 hB4.c3.no).at'⟩
  have HO := Lib.hid hobj
  have HX := Lib.hid (And.intro hB4 hb)
  have e0 := hB4.c0.cell
  have e1 := hB4.c1.cell
  rw [hW1, hb] at e0 e1
  have HV := Lib.hid hVb
  clear hVb hVl hE hobj hB4 h hL
  go_enter Tryz.func25, Tryz.ntmps25
  go_wp2_with fail
  rw [← hW1, ← hb]
  rw [← hW1, ← hb] at e0 e1
  clear hW1 hb
  go_wp2_with (go_at_call 58; fail)
  refine HO.out.mono ?_
  rintro e w1 ⟨rfl, hT1, h1, hx⟩
  have ex := one_cell hx
  have H1 := Lib.hid (And.intro hT1 h1)
  clear hT1 h1 hx e0 e1
  go_wp2
  go_ret2
  exact ⟨rfl, (HX.out.1.touch.hnob (T := HT A)).step H1.out.1 (fun i hi => hi.elim .inl (fun e => .inr (by rw [e, HX.out.2]; omega))), H1.out.2⟩
/-- Why a field isn't stored. -/
def HS.stE (S : HS) (c : Cf) (a f v : Int) : Int := if S.objE c a = 0 then (if 0 ≤ f ∧ f < S.flds a then (if 0 ≤ v ∧ v ≤ S.s.ws.length then 0 else 4) else 7) else S.objE c a
def HS.stS (S : HS) (c : Cf) (a f v : Int) : HS := if S.stE c a f v = 0 then { S with s := { S.s with ws := S.s.ws.set (a + f).toNat v } } else S
theorem heap_Store (a f v : Int) (h : HpAt W w A c S) (hL : Laid W) (hfit : S.may c a = true → 0 ≤ f → f < S.flds a → 1 ≤ a ∧ a + 1 + f ≤ S.s.ws.length) :
    Calls Tryz.prog 50 #[.pointer (some ⟨A.h, 0, none⟩), .int .i64 a, .int .i64 f, .int .i64 v] w fun e w' => e = .returned (.int .i64 (S.stE c a f v)) ∧ Touch (HT A) w w' ∧ HpAt W w' A c (S.stS c a f v) := by
  have hmf := hmkf
  obtain ⟨W1, hW1⟩ : ∃ W1, W1 = (((w.alloc (Obj.cells #[.pointer (some ⟨A.h, 0, none⟩)] 31)).alloc (Obj.cells #[.int .i64 a] 3)).alloc (Obj.cells #[.int .i64 f] 3)).alloc (Obj.cells #[.int .i64 v] 3) := ⟨_, rfl⟩
  have hB4 : Box4 W w W1 A w.heap.size (.pointer (some ⟨A.h, 0, none⟩)) (.int .i64 a) (.int .i64 f) (.int .i64 v) 31 3 3 3 := by rw [hW1]; exact h.box4 _ _ _ _ _ _ _ _
  obtain ⟨b, hb⟩ : ∃ b, b = w.heap.size := ⟨_, rfl⟩
  rw [← hb] at hB4
  obtain ⟨E, hE⟩ : ∃ E, S.stE c a f v = E := ⟨_, rfl⟩
  obtain ⟨S', hS⟩ : ∃ S', S.stS c a f v = S' := ⟨_, rfl⟩
  rw [hE, hS]
  have hobj : Calls Tryz.prog 58 #[.pointer (some ⟨A.h, 0, none⟩), .int .i64 a, .func (.func 91) #[] #[.pointer (some ⟨b + 2, 0, none⟩), .pointer (some ⟨b, 0, none⟩), .pointer (some ⟨b + 3, 0, none⟩), .pointer (some ⟨b + 1, 0, none⟩)]] W1 fun e w' => e = .returned (.int .i64 E) ∧ Touch (HT A) W1 w' ∧ HpAt W w' A c S' := by
    have h1 := h.old hB4.touch
    unfold HS.stS at hS
    by_cases ha : a = 0
    · subst ha
      refine (heap_object_zero _ _ _).mono ?_
      rintro e w' ⟨rfl, rfl⟩
      have h6 : S.objE c 0 = 6 := rfl
      have hE0 : S.stE c 0 f v = 6 := by unfold HS.stE; rw [h6]; rfl
      rw [hE0] at hE hS
      subst hE hS
      exact ⟨rfl, Touch.refl _ _, h1⟩
    · by_cases hm : S.may c a = true
      · have h0 : S.objE c a = 0 := by unfold HS.objE; rw [if_neg ha, if_pos hm]
        have hmb := HS.may_bd h hm
        have hln := HS.len_le h
        have hfb := HS.flds_bd S a
        refine (heap_object_store (R := fun x w' => x = E ∧ Touch (HT A) W1 w' ∧ HpAt W w' A c S') a _ _ _ _ h1 hL ha hm ?_).mono ?_
        · intro w1 hT1 h1'
          by_cases hf : 0 ≤ f ∧ f < S.flds a
          · by_cases hv : 0 ≤ v ∧ v ≤ S.s.ws.length
            · obtain ⟨j, hj⟩ : ∃ j : Nat, a = j + 1 := ⟨(a - 1).toNat, by omega⟩
              have hft := hfit hm hf.1 hf.2
              have hE1 : S.stE c a f v = 0 := by unfold HS.stE; rw [if_pos h0, if_pos hf, if_pos hv]
              rw [hE1] at hE hS
              rw [if_pos rfl] at hS
              subst hE hS
              have hb1 : Bx w1 A (b + 1) (.int .i64 (j + 1)) 3 := by
                have := hB4.c1.touch hT1 hB4.c1.no
                rwa [hj] at this
              refine (heap_Store1_ok (S.flds a) f v j (b + 2) b (b + 3) (b + 1) h1' (hB4.c2.touch hT1 hB4.c2.no) (hB4.c0.touch hT1 hB4.c0.no) (hB4.c3.touch hT1 hB4.c3.no) hb1 hf hv (a + f).toNat (by omega) (by omega)).mono ?_
              rintro e w2 ⟨rfl, g1, g2⟩
              exact ⟨_, rfl, rfl, hT1.trans g1, g2⟩
            · have hE1 : S.stE c a f v = 4 := by unfold HS.stE; rw [if_pos h0, if_pos hf, if_neg hv]
              rw [hE1] at hE hS
              subst hE hS
              refine (heap_Store1_bad (S.flds a) f v (b + 2) b (b + 3) _ h1' (hB4.c2.touch hT1 hB4.c2.no) (hB4.c0.touch hT1 hB4.c0.no) (hB4.c3.touch hT1 hB4.c3.no) hf (by omega)).mono ?_
              rintro e w2 ⟨rfl, rfl⟩
              exact ⟨_, rfl, rfl, hT1, h1'⟩
          · have hE1 : S.stE c a f v = 7 := by unfold HS.stE; rw [if_pos h0, if_neg hf]
            rw [hE1] at hE hS
            subst hE hS
            refine (heap_Store1_no (S.flds a) f (b + 2) _ _ _ (hB4.c2.touch hT1 hB4.c2.no) (by omega)).mono ?_
            rintro e w2 ⟨rfl, rfl⟩
            exact ⟨_, rfl, rfl, hT1, h1'⟩
        · rintro e w' ⟨x, rfl, rfl, g⟩
          exact ⟨rfl, g⟩
      · have h0 : S.objE c a = 1 := by unfold HS.objE; rw [if_neg ha, if_neg hm]
        have hE1 : S.stE c a f v = 1 := by unfold HS.stE; rw [h0]; rfl
        rw [hE1] at hE hS
        subst hE hS
        refine (heap_object_no a _ h1 hL ha (by simpa using hm)).mono ?_
        rintro e w' ⟨rfl, g1, g2⟩
        exact ⟨rfl, g1, g2⟩
  have HO := Lib.hid hobj
  have HX := Lib.hid hB4
  have e0 := hB4.c0.cell
  have e1 := hB4.c1.cell
  rw [hW1, hb] at e0 e1
  clear hE hobj hB4 h hL hfit hS
  go_enter Tryz.func50, Tryz.ntmps50
  go_wp2_with fail
  rw [← hW1, ← hb]
  rw [← hW1, ← hb] at e0 e1
  clear hW1 hb
  go_wp2_with (go_at_call 58; fail)
  refine HO.out.mono ?_
  rintro e w1 ⟨rfl, hT1, h1⟩
  have H1 := Lib.hid (And.intro hT1 h1)
  clear hT1 h1 e0 e1
  go_wp2
  go_ret
  exact ⟨rfl, HX.out.touch.hnob.trans H1.out.1, H1.out.2⟩
end Go.Proofs.YtnobempbcdkoaaaGreatDoor
namespace Go.Proofs.YtnobempbcdkoaaaGreatDoor
open Go.RowKit

variable {W w w' : World} {A : HA} {c : Cf} {S : HS} {H : Nat → List Nat}
theorem HpI.slot (h : HpI W w A c S H) {a : Int} (ho : S.own c a = true) : ∃ j k : Nat, a = j + 1 ∧ j < S.s.ws.length ∧ k < 4 ∧ clsA c S.s.ks (j + 1) = k ∧ ownB c S.s.ks (j + 1) = true := h.ll.slot ho
theorem HpI.hand_parts (h : HpI W w A c S H) {a : Int} (hh : S.hand c a = true) : ∃ j k : Nat, a = j + 1 ∧ k < 4 ∧ ownB c S.s.ks (j + 1) = true ∧ clsA c S.s.ks (j + 1) = k ∧ S.s.M (j + 1) = false ∧ S.B (j + 1) = false := by
  unfold HS.hand at hh
  simp only [Bool.and_eq_true, Bool.not_eq_true'] at hh
  obtain ⟨ho, hb, hf⟩ := hh
  obtain ⟨j, k, rfl, h1, h2, h3, h4⟩ := h.slot ho
  rw [h.obj_nat h1] at hb
  rw [h.fre_nat h1] at hf
  exact ⟨j, k, rfl, h2, h4, h3, hf, hb⟩
theorem HpI.obj_parts (h : HpI W w A c S H) {a : Int} (hh : S.obj a = true) : ∃ j k : Nat, a = j + 1 ∧ k < 4 ∧ ownB c S.s.ks (j + 1) = true ∧ clsA c S.s.ks (j + 1) = k ∧ S.s.M (j + 1) = false ∧ S.B (j + 1) = true ∧ isObjW (S.s.ws.getD j 0) = true := by
  unfold HS.obj hasB at hh
  simp only [Bool.and_eq_true] at hh
  obtain ⟨x, rfl, hx⟩ := may_nat hh.1
  obtain ⟨j, h1, h2, h3, h4, h5⟩ := h.inv.ob _ hh.2
  simp only [Int.toNat_natCast] at h1
  obtain ⟨k, hk, hc⟩ := clsA_nat h.inv.ok h3
  have e : ((x : Nat) : Int) = (j : Int) + 1 := by omega
  refine ⟨j, k, e, hk, h3, hc, h4, ?_, h5⟩
  have := hh.2
  simp only [Int.toNat_natCast] at this
  rwa [h1] at this
theorem HpI.fre_parts (h : HpI W w A c S H) {a : Int} (hh : S.fre a = true) : ∃ j k : Nat, a = j + 1 ∧ k < 4 ∧ ownB c S.s.ks (j + 1) = true ∧ clsA c S.s.ks (j + 1) = k ∧ S.s.M (j + 1) = true ∧ j ∈ H k := by
  unfold HS.fre hasB at hh
  simp only [Bool.and_eq_true] at hh
  obtain ⟨x, rfl, hx⟩ := may_nat hh.1
  have hM : S.s.M x = true := by have := hh.2; rwa [Int.toNat_natCast] at this
  obtain ⟨j, rfl⟩ : ∃ j, x = j + 1 := by
    cases x with
    | zero => rw [h.inv.li.zero] at hM; cases hM
    | succ j => exact ⟨j, rfl⟩
  have hjl : j < S.s.ws.length := by omega
  obtain ⟨k, hk, hm⟩ := (h.inv.li.mem j hjl).1 hM
  obtain ⟨h1, h2⟩ := h.inv.li.cls k hk j hm
  exact ⟨j, k, by omega, hk, h1, h2, hM, hm⟩
theorem HpI.own_obj (h : HpI W w A c S H) {a : Int} (hh : S.obj a = true) : S.own c a = true ∧ S.fre a = false := by
  obtain ⟨j, k, rfl, _, h1, _, h3, _⟩ := h.obj_parts hh
  exact ⟨h1, by rw [h.fre_nat (h.inv.one h1)]; exact h3⟩
theorem HpI.own_fre (h : HpI W w A c S H) {a : Int} (hh : S.fre a = true) : S.own c a = true ∧ S.obj a = false := by
  obtain ⟨j, k, rfl, _, h1, _⟩ := h.fre_parts hh
  refine ⟨h1, ?_⟩
  cases e : S.obj ((j : Int) + 1)
  · rfl
  · rw [(h.own_obj e).2] at hh
    cases hh
-- Put
def HS.putE (S : HS) (c : Cf) (a : Int) : Int := if S.own c a = true then (if S.hand c a = true then 0 else 11) else 1
def HS.putS (S : HS) (c : Cf) (a : Int) : HS := if S.hand c a = true then { S with s := S.s.put (a - 1).toNat (clsA c S.s.ks a).toNat } else S
def putH (S : HS) (c : Cf) (H : Nat → List Nat) (a : Int) : Nat → List Nat := if S.hand c a = true then updH H (clsA c S.s.ks a).toNat ((a - 1).toNat :: H (clsA c S.s.ks a).toNat) else H
theorem hp_Put (a : Int) (h : HpI W w A c S H) :
    Calls Tryz.prog 153 #[.pointer (some ⟨A.h, 0, none⟩), .int .i64 a] w fun e w' => e = .returned (.int .i64 (S.putE c a)) ∧ Touch (HT A) w w' ∧ HpI W w' A c (S.putS c a) (putH S c H a) := by
  unfold HS.putE HS.putS putH
  by_cases hh : S.hand c a = true
  · have hown : S.own c a = true := by
      have := hh
      unfold HS.hand at this
      rw [Bool.and_eq_true] at this
      exact this.1
    simp only [if_pos hh, if_pos hown]
    obtain ⟨j, k, rfl, hk, h1, h2, h3, h4⟩ := h.hand_parts hh
    rw [h2, show ((j : Int) + 1 - 1).toNat = j by omega, Int.toNat_natCast]
    exact hp_Put_hand j k h hk h1 h2 h3 h4
  · simp only [if_neg hh]
    obtain ⟨cx, -, -, d2, d3, -, -, -⟩ := h.at'.cells
    have hbo := h.at'.set_born a
    cases hob : S.obj a
    · rw [hob] at hbo
      have hput : Calls Tryz.prog 132 #[.pointer (some ⟨A.L.p, 0, none⟩), .int .i64 a] w fun e w' => e = .returned (.int .i64 (if S.own c a = true then 11 else 1)) ∧ Touch (LT A.L) w w' ∧ LL W w' A.L c S.s H := by
        by_cases ho : S.own c a = true
        · rw [if_pos ho]
          have hfr : S.fre a = true := by
            cases e : S.fre a
            · exact absurd (by unfold HS.hand; rw [ho, hob, e]; rfl) hh
            · rfl
          obtain ⟨j, k, rfl, g1, g2, g3, g4, g5⟩ := h.fre_parts hfr
          exact ll_Put_in j k h.ll (h.inv.one g2) g2 g1 g3 g5
        · rw [if_neg ho]
          exact ll_Put_no a h.ll (by unfold HS.own at ho; simpa using ho)
      have HH := Lib.hid (And.intro hbo (And.intro hput h))
      obtain ⟨x, hx⟩ : ∃ x, (if S.own c a = true then (11 : Int) else 1) = x := ⟨_, rfl⟩
      rw [hx] at HH ⊢
      clear h hbo hput hob hh hx
      go_enter Tryz.func153, Tryz.ntmps153
      go_wp2_with (go_at_call 55; fail)
      refine HH.out.1.mono ?_
      rintro e w1 ⟨rfl, rfl⟩
      go_wp2_with (go_at_call 132; fail)
      refine HH.out.2.1.mono ?_
      rintro e w1 ⟨rfl, hT1, h1⟩
      have H1 := Lib.hid (And.intro hT1 h1)
      clear hT1 h1
      go_wp2
      go_ret
      exact ⟨rfl, H1.out.1.mono (fun _ _ x => LT_HT x), HH.out.2.2.at'.listsL H1.out.1 H1.out.2.ls rfl, HH.out.2.2.inv, HH.out.2.2.laid⟩
    · rw [if_pos (h.own_obj hob).1]
      rw [hob] at hbo
      have HH := Lib.hid (And.intro hbo h)
      clear h hbo hob hh
      go_enter Tryz.func153, Tryz.ntmps153
      go_wp2_with (go_at_call 55; fail)
      refine HH.out.1.mono ?_
      rintro e w1 ⟨rfl, rfl⟩
      go_wp2
      go_ret
      exact ⟨rfl, Touch.refl _ _, HH.out.2⟩
-- Free
def HS.unb (S : HS) (a : Int) : HS := { S with B := putM S.B (S.s.ws.length + 1) a false }
def HS.freE (S : HS) (a : Int) : Int := if S.obj a = true then 0 else 1
def HS.freS (S : HS) (c : Cf) (a : Int) : HS := if S.obj a = true then (S.unb a).putS c a else S
def freH (S : HS) (c : Cf) (H : Nat → List Nat) (a : Int) : Nat → List Nat := if S.obj a = true then putH (S.unb a) c H a else H
theorem HpI.unb (h : HpI W w A c S H) {a : Int} (hh : S.obj a = true) : (S.unb a).hand c a = true ∧ HInv c (S.unb a) H := by
  obtain ⟨j, k, rfl, g1, g2, g3, g4, g5, g6⟩ := h.obj_parts hh
  have hj := h.inv.one g2
  have e : S.unb ((j : Int) + 1) = { S with B := fun x => if x = j + 1 then false else S.B x } := by
    unfold HS.unb
    rw [putM_nat false (by omega)]
  rw [e]
  refine ⟨?_, h.inv.unborn j⟩
  unfold HS.hand HS.own HS.obj HS.fre hasB mayB
  simp only
  rw [g2, decide_eq_true (show (0 : Int) ≤ (j : Int) + 1 by omega), decide_eq_true (show (j : Int) + 1 < ((S.s.ws.length + 1 : Nat) : Int) by omega), show ((j : Int) + 1).toNat = j + 1 by omega, if_pos rfl, g4]
  rfl
theorem hp_Free (a : Int) (h : HpI W w A c S H) :
    Calls Tryz.prog 87 #[.pointer (some ⟨A.h, 0, none⟩), .int .i64 a] w fun e w' => e = .returned (.int .i64 (S.freE a)) ∧ Touch (HT A) w w' ∧ HpI W w' A c (S.freS c a) (freH S c H a) := by
  unfold HS.freE HS.freS freH
  obtain ⟨cx, -, -, -, d3, -, -, -⟩ := h.at'.cells
  have hpb := h.at'.put_born a false
  have hpv : putB S.B (S.s.ws.length + 1) a false = S.obj a := by
    unfold putB HS.obj hasB
    cases S.B a.toNat <;> rfl
  rw [hpv] at hpb
  cases hob : S.obj a
  · rw [hob] at hpb
    simp only [if_neg Bool.false_ne_true]
    have hse : putM S.B (S.s.ws.length + 1) a false = S.B := by
      funext x
      unfold putM
      split
      · rename_i hx
        obtain ⟨hx1, rfl⟩ := hx
        unfold HS.obj hasB at hob
        rw [hx1] at hob
        exact hob.symm
      · rfl
    rw [hse] at hpb
    have HH := Lib.hid (And.intro hpb h)
    clear h hpb hpv hob hse
    go_enter Tryz.func87, Tryz.ntmps87
    go_wp2_with (go_at_call 99; fail)
    refine HH.out.1.mono ?_
    rintro e w1 ⟨rfl, hT1, h1⟩
    have H1 := Lib.hid (And.intro hT1 h1)
    clear hT1 h1
    go_wp2
    go_ret
    exact ⟨rfl, H1.out.1, H1.out.2, HH.out.2.inv, HH.out.2.laid⟩
  · simp only [if_pos]
    rw [hob] at hpb
    obtain ⟨hu1, hu2⟩ := h.unb hob
    obtain ⟨j, k, rfl, g1, g2, g3, g4, g5, g6⟩ := h.obj_parts hob
    have hup : ∀ w1, HpAt W w1 A c (S.unb ((j : Int) + 1)) → Calls Tryz.prog 132 #[.pointer (some ⟨A.L.p, 0, none⟩), .int .i64 (j + 1)] w1 fun e w' => e = .returned (.int .i64 0) ∧ Touch (HT A) w1 w' ∧ HpI W w' A c ((S.unb ((j : Int) + 1)).putS c (j + 1)) (putH (S.unb ((j : Int) + 1)) c H (j + 1)) := by
      intro w1 h1
      unfold HS.putS putH
      simp only [if_pos hu1]
      have hcl : clsA c (S.unb ((j : Int) + 1)).s.ks ((j : Int) + 1) = k := g3
      rw [hcl, show ((j : Int) + 1 - 1).toNat = j by omega, Int.toNat_natCast]
      have hI : HpI W w1 A c (S.unb ((j : Int) + 1)) H := ⟨h1, hu2, h.laid⟩
      obtain ⟨j', k', e1, _, f1, f2, f3, f4⟩ := hI.hand_parts hu1
      obtain rfl : j = j' := by omega
      have hnm : j ∉ H k := fun hm => by
        rw [(h.inv.li.of_own g1 (h.inv.one g2) g3).2 hm] at g4
        cases g4
      refine (ll_Put_ok j k hI.ll (h.inv.one g2) g2 g1 g3 hnm).mono ?_
      rintro e w2 ⟨rfl, t1, t2⟩
      exact ⟨rfl, t1.mono (fun _ _ x => LT_HT x), h1.listsL t1 t2.ls (List.length_set), hu2.put g1 f1 hcl f3 f4, h.laid⟩
    change Calls _ _ _ _ (fun e w' => _ ∧ _ ∧ HpAt W w' A c (S.unb ((j : Int) + 1))) at hpb
    have HH := Lib.hid (And.intro hpb hup)
    clear h hpb hpv hob hu1 hu2 hup g1 g2 g3 g4 g5 g6
    go_enter Tryz.func87, Tryz.ntmps87
    go_wp2_with (go_at_call 99; fail)
    refine HH.out.1.mono ?_
    rintro e w1 ⟨rfl, hT1, h1⟩
    obtain ⟨cx, -, -, d2, -, -, -, -⟩ := h1.cells
    have H1 := Lib.hid (And.intro hT1 h1)
    clear hT1 h1 d3
    go_wp2_with (go_at_call 132; fail)
    refine (HH.out.2 w1 H1.out.2).mono ?_
    rintro e w2 ⟨rfl, hT2, h2⟩
    have H2 := Lib.hid (And.intro (H1.out.1.trans hT2) h2)
    clear hT2 h2
    go_wp2
    go_ret
    exact ⟨rfl, H2.out⟩
end Go.Proofs.YtnobempbcdkoaaaGreatDoor
namespace Go.Proofs.YtnobempbcdkoaaaGreatDoor
open Go.RowKit

variable {W w w' : World} {A : HA} {c : Cf} {S : HS} {H : Nat → List Nat}
-- Take
def headN : List Nat → Int
  | [] => 0
  | j :: _ => (j : Int) + 1
def takE (H : Nat → List Nat) (k : Int) : Int := if isCls k = true then (if H k.toNat = [] then 12 else 0) else 1
def takV (H : Nat → List Nat) (k : Int) : Int := if isCls k = true then headN (H k.toNat) else 0
def HS.takS (S : HS) (H : Nat → List Nat) (k : Int) : HS := if takE H k = 0 then { S with s := S.s.tak (takV H k - 1).toNat k.toNat } else S
def takH (H : Nat → List Nat) (k : Int) : Nat → List Nat := if takE H k = 0 then updH H k.toNat (H k.toNat).tail else H
theorem hp_Take (k : Int) (h : HpI W w A c S H) :
    Calls Tryz.prog 150 #[.pointer (some ⟨A.h, 0, none⟩), .int .i64 k] w fun e w' => e = .returned (.tuple #[.int .i64 (takV H k), .int .i64 (takE H k)]) ∧ Touch (HT A) w w' ∧ HpI W w' A c (S.takS H k) (takH H k) := by
  unfold HS.takS takH
  by_cases hk : isCls k = true
  · obtain ⟨k0, k1⟩ := isCls_iff.1 hk
    obtain ⟨n, rfl⟩ := Int.eq_ofNat_of_zero_le k0
    have e1 : takV H (n : Int) = headN (H n) := by unfold takV; rw [if_pos hk, Int.toNat_natCast]
    have e2 : takE H (n : Int) = if H n = [] then 12 else 0 := by unfold takE; rw [if_pos hk, Int.toNat_natCast]
    rw [e1, e2, Int.toNat_natCast]
    cases hL : H n with
    | nil =>
      refine (hp_Take_none n h (by omega) hL).mono ?_
      rintro e w1 ⟨rfl, rfl⟩
      exact ⟨rfl, Touch.refl _ _, h⟩
    | cons j L =>
      refine (hp_Take_ok j n L h (by omega) hL).mono ?_
      rintro e w1 ⟨rfl, hT, h1⟩
      rw [if_neg (List.cons_ne_nil _ _), if_pos rfl, if_pos rfl, show (headN (j :: L) - 1).toNat = j from (by omega : ((j : Int) + 1 - 1).toNat = j)]
      exact ⟨rfl, hT, h1⟩
  · have hk' : isCls k = false := by simpa using hk
    have e1 : takV H k = 0 := by unfold takV; rw [if_neg hk]
    have e2 : takE H k = 1 := by unfold takE; rw [if_neg hk]
    rw [e1, e2, if_neg (by decide), if_neg (by decide)]
    obtain ⟨cx, -, -, d2, -, -, -, -⟩ := h.at'.cells
    have HH := Lib.hid (And.intro h hk')
    clear h hk hk' e1 e2
    go_enter Tryz.func150, Tryz.ntmps150
    go_wp2_with (go_at_call 171; fail)
    refine (lists_Take_arg k _ HH.out.2 w).mono ?_
    rintro e w1 ⟨rfl, rfl⟩
    go_wp2
    go_ret2
    exact ⟨rfl, Touch.refl _ _, HH.out.1⟩
-- Assign
def HS.asgE (S : HS) (n : Nat) (k : Int) : Int := if isCls k = true then (if S.s.ks.length < n then 0 else 10) else 1
def HS.asgS (S : HS) (n : Nat) (k : Int) : HS := if S.asgE n k = 0 then { S with s := { S.s with ks := S.s.ks ++ [k] } } else S
def HS.asgL (S : HS) (c : Cf) (n : Nat) (k : Int) : List Int := if S.asgE n k = 0 then sl c k S.s.ks.length else []
theorem IntsIn.none (w : World) : IntsIn w (.slice none 0 0) [] := ⟨Option.none, 0, rfl, .inl rfl⟩
theorem hp_Assign (k : Int) (h : HpI W w A c S H) :
    Calls Tryz.prog 151 #[.pointer (some ⟨A.h, 0, none⟩), .int .i64 k] w fun e w' => ∃ v, e = .returned (.tuple #[v, .int .i64 (S.asgE A.L.n k)]) ∧ Touch (HT A) w w' ∧ HpI W w' A c (S.asgS A.L.n k) H ∧ IntsIn w' v (S.asgL c A.L.n k) ∧ ∀ g, v.ownBlock = some g → w.heap.size ≤ g := by
  unfold HS.asgS HS.asgL
  by_cases hk : isCls k = true
  · obtain ⟨k0, k1⟩ := isCls_iff.1 hk
    obtain ⟨n, rfl⟩ := Int.eq_ofNat_of_zero_le k0
    by_cases hf : S.s.ks.length < A.L.n
    · have e1 : S.asgE A.L.n (n : Int) = 0 := by unfold HS.asgE; rw [if_pos hk, if_pos hf]
      rw [e1, if_pos rfl, if_pos rfl]
      exact hp_Assign_ok n h (by omega) hf
    · have e1 : S.asgE A.L.n (n : Int) = 10 := by unfold HS.asgE; rw [if_pos hk, if_neg hf]
      rw [e1, if_neg (by decide), if_neg (by decide)]
      obtain ⟨ct, hb⟩ := h.at'.ls.tb
      refine (hp_Assign_full n h (by omega) (by have := hb.le; omega)).mono ?_
      rintro e w1 ⟨rfl, hT⟩
      exact ⟨_, rfl, hT.hnob, h.old hT, IntsIn.none _, fun g hg => by cases hg⟩
  · have hk' : isCls k = false := by simpa using hk
    have e1 : S.asgE A.L.n k = 1 := by unfold HS.asgE; rw [if_neg hk]
    rw [e1, if_neg (by decide), if_neg (by decide)]
    obtain ⟨cx, -, d1, -, -, -, -, -⟩ := h.at'.cells
    obtain ⟨ct, hb⟩ := h.at'.ls.tb
    have HH := Lib.hid (And.intro h (blk_Assign_arg k hb hk'))
    clear h hk hk' e1 hb
    go_enter Tryz.func151, Tryz.ntmps151
    go_wp2_with (go_at_call 172; fail)
    refine HH.out.2.mono ?_
    rintro e w1 ⟨rfl, rfl⟩
    go_wp2
    go_ret2
    exact ⟨_, rfl, Touch.refl _ _, HH.out.1, IntsIn.none _, fun g hg => by cases hg⟩
-- Begin
def HS.begE (S : HS) (c : Cf) (a n : Int) : Int := if S.hand c a = true then (if objOk (clsA c S.s.ks a) n = true then 0 else 8) else 1
def HS.begS (S : HS) (c : Cf) (a n : Int) : HS := if S.begE c a n = 0 then S.setw (a - 1).toNat (hObj (clsA c S.s.ks a) n) else S
theorem hp_Begin (a n : Int) (h : HpI W w A c S H) :
    Calls Tryz.prog 124 #[.pointer (some ⟨A.h, 0, none⟩), .int .i64 a, .int .i64 n] w fun e w' => e = .returned (.int .i64 (S.begE c a n)) ∧ Touch (HT A) w w' ∧ HpI W w' A c (S.begS c a n) H := by
  unfold HS.begS
  by_cases hh : S.hand c a = true
  · by_cases hn : objOk (clsA c S.s.ks a) n = true
    · have e1 : S.begE c a n = 0 := by unfold HS.begE; rw [if_pos hh, if_pos hn]
      rw [e1, if_pos rfl]
      obtain ⟨j, k, rfl, hk, h1, h2, h3, h4⟩ := h.hand_parts hh
      rw [show ((j : Int) + 1 - 1).toNat = j by omega]
      exact hp_Begin_ok j n h h1 h3 h4 hn
    · have e1 : S.begE c a n = 8 := by unfold HS.begE; rw [if_pos hh, if_neg hn]
      rw [e1, if_neg (by decide)]
      have hhand := heap_hand a h.at' h.laid
      rw [hh] at hhand
      have hown : S.own c a = true := by
        have := hh
        unfold HS.hand at this
        rw [Bool.and_eq_true] at this
        exact this.1
      rw [show S.kls c a = clsA c S.s.ks a by unfold HS.kls; rw [hown]] at hhand
      obtain ⟨K, hK⟩ : ∃ K, clsA c S.s.ks a = K := ⟨_, rfl⟩
      rw [hK] at hhand hn
      have hn' : objOk K n = false := by simpa using hn
      have hob := fun w1 (h1 : HpI W w1 A c S H) => header_Object K n w1 h1.lay.siz
      rw [hn'] at hob
      have HH := Lib.hid (And.intro h (And.intro hhand hob))
      clear h hh hn e1 hhand hown hK hn' hob
      go_enter Tryz.func124, Tryz.ntmps124
      go_wp2_with (go_at_call 105; fail)
      refine HH.out.2.1.mono ?_
      rintro e w1 ⟨rfl, hT1⟩
      have H1 := Lib.hid hT1
      clear hT1
      go_wp2_with (go_at_call 154; fail)
      refine (HH.out.2.2 w1 (HH.out.1.old H1.out)).mono ?_
      rintro e w2 ⟨rfl, rfl⟩
      go_wp2
      go_ret
      exact ⟨rfl, H1.out.hnob, HH.out.1.old H1.out⟩
  · have e1 : S.begE c a n = 1 := by unfold HS.begE; rw [if_neg hh]
    rw [e1, if_neg (by decide)]
    have hhand := heap_hand a h.at' h.laid
    rw [show S.hand c a = false by simpa using hh] at hhand
    obtain ⟨K, hK⟩ : ∃ K, S.kls c a = K := ⟨_, rfl⟩
    rw [hK] at hhand
    have HH := Lib.hid (And.intro h hhand)
    clear h hh e1 hhand hK
    go_enter Tryz.func124, Tryz.ntmps124
    go_wp2_with (go_at_call 105; fail)
    refine HH.out.2.mono ?_
    rintro e w1 ⟨rfl, hT1⟩
    have H1 := Lib.hid hT1
    clear hT1
    go_wp2
    go_ret
    exact ⟨rfl, H1.out.hnob, HH.out.1.old H1.out⟩
-- Bear
def HS.beaE (S : HS) (c : Cf) (a n : Int) : Int := if S.hand c a = true ∧ (n = 0 ∨ n = 1) then (if S.begun a = true then 0 else 11) else 1
def HS.beaS (S : HS) (c : Cf) (a n : Int) : HS := if S.beaE c a n = 0 then { S with B := fun x => if x = (a - 1).toNat + 1 then true else S.B x, K := fun x => if x = (a - 1).toNat + 1 then decide (n = 1) else S.K x } else S
theorem hp_Bear (a n : Int) (h : HpI W w A c S H) :
    Calls Tryz.prog 125 #[.pointer (some ⟨A.h, 0, none⟩), .int .i64 a, .int .i64 n] w fun e w' => e = .returned (.int .i64 (S.beaE c a n)) ∧ Touch (HT A) w w' ∧ HpI W w' A c (S.beaS c a n) H := by
  unfold HS.beaS
  have hhand := heap_hand a h.at' h.laid
  obtain ⟨K, hK⟩ : ∃ K, S.kls c a = K := ⟨_, rfl⟩
  rw [hK] at hhand
  by_cases hh : S.hand c a = true
  · rw [hh] at hhand
    by_cases hn : n = 0 ∨ n = 1
    · by_cases hb : S.begun a = true
      · have e1 : S.beaE c a n = 0 := by unfold HS.beaE; rw [if_pos ⟨hh, hn⟩, if_pos hb]
        rw [e1, if_pos rfl]
        obtain ⟨j, k, rfl, hk, h1, h2, h3, h4⟩ := h.hand_parts hh
        rw [show ((j : Int) + 1 - 1).toNat = j by omega]
        refine hp_Bear_ok j n h hn h1 h3 h4 ?_
        unfold HS.begun at hb
        rwa [h.begun_nat (h.inv.one h1)] at hb
      · have e1 : S.beaE c a n = 11 := by unfold HS.beaE; rw [if_pos ⟨hh, hn⟩, if_neg hb]
        rw [e1, if_neg (by decide)]
        have hhead := fun w1 (h1 : HpAt W w1 A c S) => heap_header a h1 h.laid
        rw [show S.begun a = false by simpa using hb] at hhead
        obtain ⟨F, hF⟩ : ∃ F, S.flds a = F := ⟨_, rfl⟩
        rw [hF] at hhead
        have HH := Lib.hid (And.intro h (And.intro hhand hhead))
        clear h hh hb e1 hhand hK hhead hF
        rcases hn with rfl | rfl
        all_goals
          go_enter Tryz.func125, Tryz.ntmps125
          go_wp2_with (go_at_call 105; fail)
          refine HH.out.2.1.mono ?_
          rintro e w1 ⟨rfl, hT1⟩
          have H1 := Lib.hid hT1
          clear hT1
          go_wp2_with (go_at_call 114; fail)
          refine (heap_color _ w1).mono ?_
          rintro e w2 ⟨rfl, rfl⟩
          go_wp2_with (go_at_call 106; fail)
          refine (HH.out.2.2 w1 (HH.out.1.old H1.out).at').mono ?_
          rintro e w2 ⟨rfl, hT2, h2⟩
          have H2 := Lib.hid (And.intro (H1.out.hnob.trans hT2) h2)
          clear hT2 h2
          go_wp2
          go_ret
          exact ⟨rfl, H2.out.1, H2.out.2, HH.out.1.inv, HH.out.1.laid⟩
    · have e1 : S.beaE c a n = 1 := by unfold HS.beaE; rw [if_neg (fun x => hn x.2)]
      rw [e1, if_neg (by decide)]
      have hcb : (decide (n = 0) || decide (n = 1)) = false := by rw [decide_eq_false (by omega), decide_eq_false (by omega)]; rfl
      have hcol := fun w1 => heap_color n w1
      rw [hcb] at hcol
      have HH := Lib.hid (And.intro h (And.intro hhand hcol))
      clear h hh e1 hhand hK hn hcb hcol
      go_enter Tryz.func125, Tryz.ntmps125
      go_wp2_with (go_at_call 105; fail)
      refine HH.out.2.1.mono ?_
      rintro e w1 ⟨rfl, hT1⟩
      have H1 := Lib.hid hT1
      clear hT1
      go_wp2_with (go_at_call 114; fail)
      refine (HH.out.2.2 w1).mono ?_
      rintro e w2 ⟨rfl, rfl⟩
      go_wp2
      go_ret
      exact ⟨rfl, H1.out.hnob, HH.out.1.old H1.out⟩
  · have e1 : S.beaE c a n = 1 := by unfold HS.beaE; rw [if_neg (fun x => hh x.1)]
    rw [e1, if_neg (by decide)]
    rw [show S.hand c a = false by simpa using hh] at hhand
    have HH := Lib.hid (And.intro h hhand)
    clear h hh e1 hhand hK
    go_enter Tryz.func125, Tryz.ntmps125
    go_wp2_with (go_at_call 105; fail)
    refine HH.out.2.mono ?_
    rintro e w1 ⟨rfl, hT1⟩
    have H1 := Lib.hid hT1
    clear hT1
    go_wp2
    go_ret
    exact ⟨rfl, H1.out.hnob, HH.out.1.old H1.out⟩
end Go.Proofs.YtnobempbcdkoaaaGreatDoor
