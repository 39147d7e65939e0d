/- Sets of numbers: the law's example, walked. Conditions: the library's table reads as laid. -/
import Derived.Test.YtjbmpdibjfcafaaDoorSet4
import Derived.Test.YtjbmpdibjfcafaaDoorSet5
import Derived.Test.YtjbmpdibjfcafaaDoorNext
namespace Go.Proofs.YtjbmpdibjfcafaaDoor
open Go.RowKit

variable {w : World} {p q cap : Nat} {ws : List Nat} {size : Nat} {M : Nat → Bool}
set_option maxHeartbeats 1000000 in
theorem law01_awake (w : World) (hT : Tab w) : Calls Tryd.prog 15 #[] w fun e w' => e = .returned (.bool true) ∧ Touch nob w w' := by
  have HT := Lib.hid hT
  clear hT
  go_enter Tryd.func15, Tryd.ntmps15
  go_wp2_with (go_at_call 16; fail)
  refine (bits_New_ok 100 (by omega) w).mono ?_
  rintro e w1 ⟨p, q, cap, ws, rfl, hT1, hp, hq, hS⟩
  have H1 := Lib.hid (And.intro hT1 (And.intro hp (And.intro hq hS)))
  clear hT1 hp hq hS
  go_wp2_with (go_at_call 17; fail)
  refine (set_Put 3 true H1.out.2.2.2).mono ?_
  rintro e w2 ⟨ws2, rfl, hT2, hS2⟩
  rw [show putB (fun _ => false) 100 3 true = true by rfl]
  have H2 := Lib.hid (And.intro hT2 hS2)
  clear hT2 hS2
  go_wp2_with (go_at_call 17; fail)
  refine (set_Put 70 true H2.out.2).mono ?_
  rintro e w3 ⟨ws3, rfl, hT3, hS3⟩
  rw [show putB (putM (fun _ => false) 100 3 true) 100 70 true = true by rfl]
  have H3 := Lib.hid (And.intro hT3 hS3)
  clear hT3 hS3
  have HT3 : Hid (Touch nob w w3) := (H1.out.1.step H2.out.1 (fun i hi => .inr (by rw [hi]; exact H1.out.2.2.1))).step H3.out.1 (fun i hi => .inr (by rw [hi]; exact H1.out.2.2.1))
  go_wp2_with (go_at_call 24; fail)
  refine (set_Next 4 H3.out.2 (HT.out.touch HT3.out (fun x => x))).mono ?_
  rintro e w4 ⟨o, ho, rfl, rfl⟩
  have h70 : NextR (putM (putM (fun _ => false) 100 3 true) 100 70 true) 100 4 (some 70) := by
    refine ⟨by decide, by decide, by decide, ?_⟩
    have : ∀ j : Fin 70, 4 ≤ j.val → putM (putM (fun _ => false) 100 3 true) 100 70 true j.val = false := by decide +kernel
    exact fun j h1 h2 => this ⟨j, h2⟩ h1
  rw [show o = some 70 from NextR.unique ho h70]
  clear ho h70
  go_wp2
  go_ret
  exact ⟨rfl, HT3.out⟩
end Go.Proofs.YtjbmpdibjfcafaaDoor
