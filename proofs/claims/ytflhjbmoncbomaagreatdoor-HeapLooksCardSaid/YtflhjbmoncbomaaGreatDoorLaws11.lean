/- The heap's law's example, walked. Conditions: the tables of limits and of sizes read as laid. -/
import Derived.Test.YtflhjbmoncbomaaGreatDoorHpD
namespace Go.Proofs.YtflhjbmoncbomaaGreatDoor
open Go.RowKit

def awakeC11 : Cf := ⟨2, 16, 1, 1, 0, 1, 1⟩
def awakeS11 : HS := ⟨⟨List.replicate 32 0, [], fun _ => false, fun _ => 0, fun _ => 0⟩, fun _ => false, fun _ => false, []⟩
theorem awake11_1 : makV awakeS11 (fun _ => []) awakeC11 2 1 0 = 1 ∧ makE awakeS11 (fun _ => []) 2 1 0 = 0 := by decide +kernel
theorem awake11_2 : makV (makS awakeS11 (fun _ => []) awakeC11 2 1 0) (makH awakeS11 (fun _ => []) awakeC11 2 1 0) awakeC11 2 1 0 = 3 ∧ makE (makS awakeS11 (fun _ => []) awakeC11 2 1 0) (makH awakeS11 (fun _ => []) awakeC11 2 1 0) 2 1 0 = 0 := by decide +kernel
theorem law11_awake (w : World) (hL : Laid w) : Calls Tryz.prog 13 #[] w fun e w' => e = .returned (.bool true) ∧ Touch nob w w' := by
  have HL := Lib.hid hL
  clear hL
  go_enter Tryz.func13, Tryz.ntmps13
  go_wp2_with (go_at_call 14; fail)
  refine (heap_New_ok awakeC11 w HL.out (by decide)).mono ?_
  rintro e w1 ⟨A, z, n, rfl, hz, hb, hn, h1⟩
  obtain rfl : z = 32 := by have : (z : Int) = 32 := hz; omega
  obtain rfl : n = 0 := by have : (n : Int) = 0 := hn; omega
  have hb2 : A.L.n = 2 := by have : (A.L.n : Int) = 2 := hb; omega
  have h1' : HpI w w1 A awakeC11 awakeS11 (fun _ => []) := h1
  have hM1 := hp_Make 1 0 h1'
  rw [hb2] at hM1
  rw [show makV _ _ awakeC11 2 1 0 = 1 from awake11_1.1, show makE _ _ 2 1 0 = 0 from awake11_1.2] at hM1
  have HM1 := Lib.hid hM1
  have HB := Lib.hid hb2
  clear hz hb hn h1 h1' hb2 hM1
  go_wp2_with (go_at_call 39; fail)
  refine HM1.out.mono ?_
  rintro e w2 ⟨rfl, -, h2⟩
  have hM2 := hp_Make 1 0 h2
  rw [HB.out] at hM2
  rw [show makV _ _ awakeC11 2 1 0 = 3 from awake11_2.1, show makE _ _ 2 1 0 = 0 from awake11_2.2] at hM2
  have HM2 := Lib.hid hM2
  clear h2 hM2 HM1
  go_wp2_with (go_at_call 39; fail)
  refine HM2.out.mono ?_
  rintro e w3 ⟨rfl, -, h3⟩
  have H3 := Lib.hid h3.at'.base
  clear h3
  go_wp2
  go_ret
  exact ⟨rfl, H3.out⟩
end Go.Proofs.YtflhjbmoncbomaaGreatDoor
