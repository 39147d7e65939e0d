/- The heap's Is, walked. Conditions: none. The heap's colors and cells, walked. Conditions: none. -/
import Derived.Test.YtnobempbcdkoaaaGreatDoorHpA
namespace Go.Proofs.YtnobempbcdkoaaaGreatDoor
open Go.RowKit

variable {W w w' : World} {A : HA} {c : Cf} {S : HS}
theorem heap_Is (a : Int) (h : HpAt W w A c S) :
    Calls Tryz.prog 57 #[.pointer (some ⟨A.h, 0, none⟩), .int .i64 a] w fun e w' => e = .returned (.bool (S.obj a)) ∧ w = w' := by
  obtain ⟨cx, -, -, -, d3, -, -, -⟩ := h.cells
  have H := Lib.hid h
  clear h
  go_enter Tryz.func57, Tryz.ntmps57
  go_wp2_with (go_at_call 55; fail)
  refine (H.out.set_born a).mono ?_
  rintro e w2 ⟨rfl, rfl⟩
  go_wp2
  go_ret
  exact ⟨rfl, rfl⟩
end Go.Proofs.YtnobempbcdkoaaaGreatDoor
namespace Go.Proofs.YtnobempbcdkoaaaGreatDoor
open Go.RowKit

variable {W w w' : World} {A : HA} {c : Cf} {S : HS}
def HS.colB (S : HS) (a : Int) : Bool := hasB S.K (S.s.ws.length + 1) a
def HS.colV (S : HS) (a : Int) : Int := if S.obj a = true ∧ S.colB a = true then 1 else 0
def HS.colE (S : HS) (a : Int) : Int := if S.obj a = true then 0 else 1
theorem heap_Color (a : Int) (h : HpAt W w A c S) :
    Calls Tryz.prog 35 #[.pointer (some ⟨A.h, 0, none⟩), .int .i64 a] w fun e w' => e = .returned (.tuple #[.int .i64 (S.colV a), .int .i64 (S.colE a)]) ∧ w = w' := by
  obtain ⟨cx, -, -, -, d3, d4, -, -⟩ := h.cells
  have his := heap_Is a h
  have hco := h.set_color a
  change Calls _ _ _ _ (fun e w' => e = .returned (.bool (S.colB a)) ∧ w = w') at hco
  unfold HS.colV HS.colE
  obtain ⟨ob, hob⟩ : ∃ b, S.obj a = b := ⟨_, rfl⟩
  obtain ⟨kb, hkb⟩ : ∃ b, S.colB a = b := ⟨_, rfl⟩
  rw [hob] at his ⊢
  rw [hkb] at hco ⊢
  have HH := Lib.hid (And.intro his hco)
  clear h hob hkb his hco d3
  cases ob
  · rw [if_neg (fun x => Bool.noConfusion x.1), if_neg Bool.false_ne_true]
    go_enter Tryz.func35, Tryz.ntmps35
    go_wp2_with (go_at_call 57; fail)
    refine HH.out.1.mono ?_
    rintro e w1 ⟨rfl, rfl⟩
    go_wp2
    go_ret2
    exact ⟨rfl, rfl⟩
  · cases kb
    · rw [if_neg (fun x => Bool.noConfusion x.2), if_pos rfl]
      go_enter Tryz.func35, Tryz.ntmps35
      go_wp2_with (go_at_call 57; fail)
      refine HH.out.1.mono ?_
      rintro e w1 ⟨rfl, rfl⟩
      go_wp2_with (go_at_call 55; fail)
      refine HH.out.2.mono ?_
      rintro e w1 ⟨rfl, rfl⟩
      go_wp2
      go_ret2
      exact ⟨rfl, rfl⟩
    · rw [if_pos ⟨rfl, rfl⟩, if_pos rfl]
      go_enter Tryz.func35, Tryz.ntmps35
      go_wp2_with (go_at_call 57; fail)
      refine HH.out.1.mono ?_
      rintro e w1 ⟨rfl, rfl⟩
      go_wp2_with (go_at_call 55; fail)
      refine HH.out.2.mono ?_
      rintro e w1 ⟨rfl, rfl⟩
      go_wp2
      go_ret2
      exact ⟨rfl, rfl⟩
def HS.paiB (S : HS) (a n : Int) : Bool := S.obj a && (decide (n = 0) || decide (n = 1))
def HS.paiV (S : HS) (a n : Int) : Bool := S.paiB a n && putB S.K (S.s.ws.length + 1) a (decide (n = 1))
def HS.paiE (S : HS) (a n : Int) : Int := if S.paiB a n = true then 0 else 1
def HS.paiS (S : HS) (a n : Int) : HS := if S.paiB a n = true then { S with K := putM S.K (S.s.ws.length + 1) a (decide (n = 1)) } else S
theorem heap_Paint (a n : Int) (h : HpAt W w A c S) :
    Calls Tryz.prog 77 #[.pointer (some ⟨A.h, 0, none⟩), .int .i64 a, .int .i64 n] w fun e w' => e = .returned (.tuple #[.bool (S.paiV a n), .int .i64 (S.paiE a n)]) ∧ Touch (HT A) w w' ∧ HpAt W w' A c (S.paiS a n) := by
  obtain ⟨cx, -, -, -, -, d4, -, -⟩ := h.cells
  have his := heap_Is a h
  have hpu := h.put_color a (decide (n = 1))
  unfold HS.paiV HS.paiE HS.paiS
  obtain ⟨ob, hob⟩ : ∃ b, S.obj a = b := ⟨_, rfl⟩
  have hpa : S.paiB a n = (ob && (decide (n = 0) || decide (n = 1))) := by unfold HS.paiB; rw [hob]
  rw [hob] at his
  rw [hpa]
  obtain ⟨pb, hpb⟩ : ∃ b, putB S.K (S.s.ws.length + 1) a (decide (n = 1)) = b := ⟨_, rfl⟩
  rw [hpb] at hpu ⊢
  have HH := Lib.hid (And.intro his (And.intro hpu h))
  have HC := Lib.hid (heap_color n w)
  clear h hob hpa hpb his hpu
  cases ob
  · go_enter Tryz.func77, Tryz.ntmps77
    go_wp2_with (go_at_call 57; fail)
    refine HH.out.1.mono ?_
    rintro e w1 ⟨rfl, rfl⟩
    go_wp2
    go_ret2
    exact ⟨rfl, Touch.refl _ _, HH.out.2.2⟩
  · by_cases hn : n = 0 ∨ n = 1
    · have hcb : (decide (n = 0) || decide (n = 1)) = true := by rcases hn with rfl | rfl <;> rfl
      rw [hcb] at HC ⊢
      clear hcb
      rw [if_pos (by rfl), if_pos (by rfl)]
      have hpv : ((true && true) && pb) = pb := by cases pb <;> rfl
      rw [hpv]
      clear hpv
      rcases hn with rfl | rfl
      all_goals
        go_enter Tryz.func77, Tryz.ntmps77
        go_wp2_with (go_at_call 57; fail)
        refine HH.out.1.mono ?_
        rintro e w1 ⟨rfl, rfl⟩
        go_wp2_with (go_at_call 114; fail)
        refine HC.out.mono ?_
        rintro e w1 ⟨rfl, rfl⟩
        go_wp2_with (go_at_call 99; fail)
        refine HH.out.2.1.mono ?_
        rintro e w1 ⟨rfl, hT1, h1⟩
        have H1 := Lib.hid (And.intro hT1 h1)
        clear hT1 h1
        go_wp2
        go_ret2
        exact ⟨rfl, H1.out⟩
    · have hcb : (decide (n = 0) || decide (n = 1)) = false := by rw [decide_eq_false (by omega), decide_eq_false (by omega)]; rfl
      rw [hcb] at HC ⊢
      clear hcb hn
      go_enter Tryz.func77, Tryz.ntmps77
      go_wp2_with (go_at_call 57; fail)
      refine HH.out.1.mono ?_
      rintro e w1 ⟨rfl, rfl⟩
      go_wp2_with (go_at_call 114; fail)
      refine HC.out.mono ?_
      rintro e w1 ⟨rfl, rfl⟩
      go_wp2
      go_ret2
      exact ⟨rfl, Touch.refl _ _, HH.out.2.2⟩
end Go.Proofs.YtnobempbcdkoaaaGreatDoor
