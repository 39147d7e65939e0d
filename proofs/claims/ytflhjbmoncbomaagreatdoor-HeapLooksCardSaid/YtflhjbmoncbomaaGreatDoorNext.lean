/- How many bits are 0 ahead of the lowest one: the library's, for the program. Conditions: its table reads as laid. Sets of numbers: Next, walked. Conditions: the library's table reads as laid. -/
import Derived.Test.YtflhjbmoncbomaaGreatDoorSet
import Derived.Test.YtflhjbmoncbomaaGreatDoorOnes
import Derived.Shelf.Spec.TrailingZeros
import Derived.WalkMore
namespace Go.Proofs.YtflhjbmoncbomaaGreatDoor
open Go.RowKit Go.Shelf

def r29 : Ren := ⟨fun _ => 149, fun n => if n = 0 then 0 else if n = 3 then 3 else if n = 4 then 4 else if n = 5 then 5 else if n = 22 then 113 else if n = 25 then 161 else 180, fun _ => 2⟩
set_option maxRecDepth 100000 in
theorem lays29 : Lays7.n29 Tryz.prog r29 where
  mixed := by kernel_rfl
  f29 := by kernel_rfl
  t0 := by kernel_rfl
  a0 := fun _ => rfl
  z0 := fun _ => rfl
  v0 := fun _ => rfl
  i0 := by kernel_rfl
  t3 := by kernel_rfl
  a3 := fun _ => rfl
  z3 := fun _ => rfl
  v3 := fun _ => rfl
  i3 := by kernel_rfl
  t4 := by kernel_rfl
  a4 := fun _ => rfl
  z4 := fun _ => rfl
  v4 := fun _ => rfl
  i4 := by kernel_rfl
  t5 := by kernel_rfl
  a5 := fun _ => rfl
  z5 := fun _ => rfl
  v5 := fun _ => rfl
  i5 := by kernel_rfl
  t22 := by kernel_rfl
  a22 := fun _ => rfl
  z22 := fun _ => rfl
  v22 := fun _ => rfl
  i22 := by kernel_rfl
  t25 := by kernel_rfl
  a25 := fun _ => rfl
  z25 := fun _ => rfl
  v25 := fun _ => rfl
  i25 := by kernel_rfl
  t54 := by kernel_rfl
  a54 := fun _ => rfl
  z54 := fun _ => rfl
  g1 := by kernel_rfl

/-- The library's table reads as laid. -/
def Tab (w : World) : Prop := TabAt 2 Lib.deBruijn64tab w
theorem gTab : Tryz.prog.globalNamed "math/bits.deBruijn64tab" = some 2 := by kernel_rfl
theorem tTab : (Tryz.prog.globals[2]?).map (·.type) = some 180 := by kernel_rfl
theorem tab_of_cells {w : World} (h : ∀ i, w.cell? ⟨2, i, none⟩ = (Lib.deBruijn64tab.map fun (x : Nat) => Value.int .u8 (x : Int))[i]?) : Tab w := fun j hj => by
  rw [h j, List.getElem?_map, List.getElem?_eq_getElem hj, List.getD_eq_getElem?_getD, List.getElem?_eq_getElem hj]
  rfl
theorem Tab.lt {w : World} (h : Tab w) : 2 < w.heap.size := by
  obtain ⟨o, ho, _⟩ := cells_of_cell (h 0 (by decide))
  exact (Array.getElem?_eq_some_iff.1 ho).1
theorem Tab.touch {S : Nat → Prop} {w w' : World} (h : Tab w) (ht : Touch S w w') (hs : ¬ S 2) : Tab w' :=
  fun j hj => (ht.cell h.lt hs).trans (h j hj)
theorem bits_tz64 (x : Nat) (hx : x < 18446744073709551616) (w : World) (hT : Tab w) :
    Calls Tryz.prog 149 #[.int .u64 x] w fun e w' => e = .returned (.int .i64 (Lib.ctz 64 x)) ∧ w = w' :=
  (Any7.bits_TrailingZeros64 lays29 x hx w (fun _ => hT)).mono fun _ _ h => ⟨h.1, h.2.symm⟩

/-- What Next finds. -/
def NextR (M : Nat → Bool) (size n : Nat) : Option Nat → Prop
  | some k => n ≤ k ∧ k < size ∧ M k = true ∧ ∀ j, n ≤ j → j < k → M j = false
  | none => ∀ j, n ≤ j → j < size → M j = false
theorem NextR.unique {M : Nat → Bool} {size n : Nat} : ∀ {o o' : Option Nat}, NextR M size n o → NextR M size n o' → o = o'
  | none, none, _, _ => rfl
  | none, some k, h, g => by have := h k g.1 g.2.1; rw [g.2.2.1] at this; cases this
  | some k, none, h, g => by have := g k h.1 h.2.1; rw [h.2.2.1] at this; cases this
  | some k, some j, h, g => by
    have hkj : ¬ k < j := fun hh => by have := g.2.2.2 k h.1 hh; rw [h.2.2.1] at this; cases this
    have hjk : ¬ j < k := fun hh => by have := h.2.2.2 j g.1 hh; rw [g.2.2.1] at this; cases this
    rw [show k = j by omega]
theorem WRep.left_none {ws : List Nat} {size n : Nat} {M : Nat → Bool} (h : WRep ws size M) (h0 : ws.getD (n / 64) 0 / 2 ^ (n % 64) = 0) (k : Nat) (hk : n ≤ k) (hk' : k < n + (64 - n % 64)) (hs : k < size) : M k = false := by
  have h1 := h.bit k
  rw [show k / 64 = n / 64 by omega, decide_eq_true hs, Bool.true_and] at h1
  rw [← h1]
  have h2 : (ws.getD (n / 64) 0 / 2 ^ (n % 64)).testBit (k - n) = false := by rw [h0]; simp
  rw [Nat.testBit_div_two_pow] at h2
  rw [show k % 64 = k - n + n % 64 by omega]
  first
    | exact h2
    | (rw [Nat.add_comm]; exact h2)
theorem WRep.left_some {ws : List Nat} {size n : Nat} {M : Nat → Bool} (h : WRep ws size M) (h0 : ws.getD (n / 64) 0 / 2 ^ (n % 64) ≠ 0) :
    NextR M size n (some (n + Lib.ctz 64 (ws.getD (n / 64) 0 / 2 ^ (n % 64)))) := by
  have hX := h.lt (n / 64)
  obtain ⟨X, hXe⟩ : ∃ X, ws.getD (n / 64) 0 = X := ⟨_, rfl⟩
  obtain ⟨L, hL⟩ : ∃ L, X / 2 ^ (n % 64) = L := ⟨_, rfl⟩
  rw [hXe] at hX h0 ⊢
  rw [hL] at h0 ⊢
  have hL64 : L < 2 ^ 64 := by rw [← hL]; exact Nat.lt_of_le_of_lt (Nat.div_le_self _ _) hX
  obtain ⟨m, hm, hc⟩ := Lib.ctzFrom_spec 64 L (by omega) hL64
  have hce : Lib.ctz 64 L = Lib.ctzFrom 64 L := by simp [Lib.ctz, h0]
  rw [hce]
  obtain ⟨c, hcc⟩ : ∃ c, Lib.ctzFrom 64 L = c := ⟨_, rfl⟩
  rw [hcc] at hm hc ⊢
  have bit : ∀ j, L.testBit j = X.testBit (n % 64 + j) := fun j => by
    rw [← hL, Nat.testBit_div_two_pow]
    first
      | rfl
      | rw [Nat.add_comm]
  have hb1 : L.testBit c = true := by rw [hm, Nat.testBit_two_pow_mul]; simp
  have hb0 : ∀ j, j < c → L.testBit j = false := fun j hj => by rw [hm, Nat.testBit_two_pow_mul]; simp; omega
  have hlt : n % 64 + c < 64 := by
    apply Nat.lt_of_not_le
    intro hle
    have p : X < 2 ^ (n % 64 + c) := Nat.lt_of_lt_of_le hX (Nat.le_trans (by decide : (18446744073709551616 : Nat) ≤ 2 ^ 64) (Nat.pow_le_pow_right (by omega) hle))
    rw [bit, Nat.testBit_lt_two_pow p] at hb1
    cases hb1
  have hat : ∀ j, n % 64 + j < 64 → L.testBit j = (decide (n + j < size) && M (n + j)) := fun j hj => by
    have := h.bit (n + j)
    rw [show (n + j) / 64 = n / 64 by omega, show (n + j) % 64 = n % 64 + j by omega, hXe] at this
    rw [bit, this]
  have h1 := hat c hlt
  rw [hb1] at h1
  simp only [Bool.true_eq, Bool.and_eq_true, decide_eq_true_eq] at h1
  refine ⟨by omega, h1.1, h1.2, fun j hj hj' => ?_⟩
  have h2 := hat (j - n) (by omega)
  rw [hb0 _ (by omega), show n + (j - n) = j by omega, decide_eq_true (show j < size by omega), Bool.true_and] at h2
  exact h2.symm
end Go.Proofs.YtflhjbmoncbomaaGreatDoor
namespace Go.Proofs.YtflhjbmoncbomaaGreatDoor
open Go.RowKit

variable {w : World} {p q cap : Nat} {ws : List Nat} {size : Nat} {M : Nat → Bool}
set_option maxHeartbeats 1000000 in
theorem set_Next (n : Int) (h : SetAt w p q cap ws size M) (hT : Tab w) :
    Calls Tryz.prog 134 #[.pointer (some ⟨p, 0, none⟩), .int .i64 n] w fun e w' => ∃ o, NextR M size n.toNat o ∧ e = .returned (.tuple #[.int .i64 (o.getD 0 : Nat), .bool o.isSome]) ∧ w = w' := by
  obtain ⟨d0, d1, e0, e1⟩ := box2 h.box
  have hle := h.le
  obtain ⟨_, _, _, hcap, _⟩ := id h.row
  rw [List.length_map] at hcap
  have HS := Lib.hid (And.intro h hT)
  clear h hT
  obtain ⟨m, hm⟩ : ∃ m : Nat, n.toNat = m := ⟨_, rfl⟩
  rw [hm]
  have hmx : (if n < 0 then (0 : Int) else n) = (m : Int) := by split <;> omega
  clear hm
  go_enter Tryz.func134, Tryz.ntmps134
  go_wp2_with fail
  go_step3
  go_wp2_with fail
  go_step3
  go_wp2_with fail
  go_loopw [1] (fun i wr => ∃ k : Nat, i = .int .i64 k ∧ wr = w ∧ m ≤ k ∧ k ≤ m + 2097216 ∧ Hid (∀ j, m ≤ j → j < k → j < size → M j = false)) (fun i _ => size - (intOf i).toNat)
  case atStart => exact ⟨m, rfl, rfl, Nat.le_refl _, by omega, fun j h1 h2 => by omega⟩
  case round =>
    obtain ⟨k, rfl, rfl, hmk, hk, HM⟩ := hrel
    go_wp2_with (go_at_call 115; fail)
    refine (set_may k HS.out.1).mono ?_
    rintro e w' ⟨rfl, rfl⟩
    by_cases hks : k < size
    · rw [show mayB size k = true by unfold mayB; simp [hks]]
      have hi := HS.out.1.rep.idx hks
      have dq := u64_cell HS.out.1.row hi
      have hX := HS.out.1.rep.lt (k / 64)
      have HL := Lib.hid (HS.out.1.rep.left_none (n := k))
      have HL' := Lib.hid (HS.out.1.rep.left_some (n := k))
      obtain ⟨X, hX0⟩ : ∃ X, ws.getD (k / 64) 0 = X := ⟨_, rfl⟩
      rw [hX0] at dq hX HL HL'
      clear hX0
      have hb : (k : Int) / 64 < (ws.length : Int) := by omega
      obtain ⟨L, hL⟩ : ∃ L, X / 2 ^ (k % 64) = L := ⟨_, rfl⟩
      rw [hL] at HL HL'
      have hXL : (X : Int) / 2 ^ (k % 64) = (L : Int) := by rw [← hL]; simp
      have hL64 : L < 18446744073709551616 := by rw [← hL]; exact Nat.lt_of_le_of_lt (Nat.div_le_self _ _) hX
      clear hL
      by_cases hL0 : L = 0
      · subst hL0
        have hXL0 : (X : Int) / 2 ^ (k % 64) = 0 := hXL
        clear hXL
        go_wp2_with fail
        refine ⟨⟨k + (64 - k % 64), by go_num, trivial, by omega, by omega, fun j h1 h2 h3 => ?_⟩, by simp [intOf]; omega⟩
        by_cases hjk : j < k
        · exact HM.out j h1 hjk h3
        · exact HL.out trivial j (by omega) h2 h3
      · have hL0' : ¬ (L : Int) = 0 := by omega
        have HN := Lib.hid (HL'.out hL0)
        go_wp2_with (go_at_call 149; fail)
        rw [hXL]
        refine (bits_tz64 L hL64 wr HS.out.2).mono ?_
        rintro e w' ⟨rfl, rfl⟩
        obtain ⟨c, hc⟩ : ∃ c, Lib.ctz 64 L = c := ⟨_, rfl⟩
        rw [hc] at HN ⊢
        have hkc : k + c < size := HN.out.2.1
        clear hc hXL
        go_wp2_with (go_at_call 115; fail)
        refine (set_may (k + c : Nat) HS.out.1).mono ?_
        rintro e w' ⟨rfl, rfl⟩
        rw [show mayB size (k + c : Nat) = true by unfold mayB; simp; omega]
        go_wp2_with fail
        rw [Exit.noGoto_ret]
        go_ret2
        exact ⟨some (k + c), ⟨by omega, hkc, HN.out.2.2.1, fun j h1 h2 => by
          by_cases hjk : j < k
          · exact HM.out j h1 hjk (by omega)
          · exact HN.out.2.2.2 j (by omega) h2⟩, rfl, rfl⟩
    · rw [show mayB size k = false by unfold mayB; simp [hks]]
      go_wp2_with (go_at_call 115; fail)
      refine (set_may k HS.out.1).mono ?_
      rintro e w' ⟨rfl, rfl⟩
      rw [show mayB size k = false by unfold mayB; simp [hks]]
      go_wp2_with fail
      rw [Exit.noGoto_ret]
      go_ret2
      exact ⟨none, fun j h1 h2 => HM.out j h1 (by omega) h2, rfl, rfl⟩
end Go.Proofs.YtflhjbmoncbomaaGreatDoor
