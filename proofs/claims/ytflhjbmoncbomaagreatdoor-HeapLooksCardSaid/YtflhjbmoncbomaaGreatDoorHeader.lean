/- Bit operations on uint64, as arithmetic. Conditions: none; no program. The header functions, walked. Conditions: the table of sizes reads as laid. -/
import Derived.WalkKit
import Derived.Lib.Hide
import Derived.Test.YtflhjbmoncbomaaGreatDoorClass
import Derived.Test.YtflhjbmoncbomaaGreatDoorRep
namespace Go.Proofs.YtflhjbmoncbomaaGreatDoor
open Go.RowKit

theorem bv_u64 (a : Nat) (ha : a < 18446744073709551616) : (BitVec.ofInt 64 (a : Int)).toNat = a := by
  rw [BitVec.ofInt_natCast, BitVec.toNat_ofNat]; exact Nat.mod_eq_of_lt (by omega)
theorem bits_and_u64_nat (a b : Nat) (ha : a < 18446744073709551616) (hb : b < 18446744073709551616) : bits .and .u64 (a : Int) (b : Int) = ((a &&& b : Nat) : Int) := by
  have hx : a &&& b < 2 ^ 64 := Nat.and_lt_two_pow _ (by omega)
  show IntKind.u64.wrap ((BitVec.ofInt 64 (a : Int) &&& BitVec.ofInt 64 (b : Int)).toNat : Int) = _
  rw [BitVec.toNat_and, bv_u64 a ha, bv_u64 b hb, IntKind.wrap_u64]
  omega
theorem bits_or_u64_nat (a b : Nat) (ha : a < 18446744073709551616) (hb : b < 18446744073709551616) : bits .or .u64 (a : Int) (b : Int) = ((a ||| b : Nat) : Int) := by
  have hx : a ||| b < 2 ^ 64 := Nat.or_lt_two_pow (by omega) (by omega)
  show IntKind.u64.wrap ((BitVec.ofInt 64 (a : Int) ||| BitVec.ofInt 64 (b : Int)).toNat : Int) = _
  rw [BitVec.toNat_or, bv_u64 a ha, bv_u64 b hb, IntKind.wrap_u64]
  omega
/-- A mask of the lowest n bits. -/
theorem and_mask (n : Nat) (hn : n ≤ 63) (m : Int) (hm : m = ((2 ^ n - 1 : Nat) : Int)) (x : Int) (h0 : 0 ≤ x) (h1 : x < 18446744073709551616) : bits .and .u64 x m = x % ((2 ^ n : Nat) : Int) := by
  obtain ⟨a, rfl⟩ := Int.eq_ofNat_of_zero_le h0
  subst hm
  have hp : 2 ^ n ≤ 2 ^ 63 := Nat.pow_le_pow_right (by omega) hn
  rw [bits_and_u64_nat a _ (by omega) (by omega), Nat.and_two_pow_sub_one_eq_mod]
  simp
/-- Two parts that do not meet. -/
theorem or_parts (n : Nat) (a b : Int) (ha : 0 ≤ a) (hb : 0 ≤ b) (hb' : b < ((2 ^ n : Nat) : Int)) (hs : a * ((2 ^ n : Nat) : Int) + b < 18446744073709551616) :
    bits .or .u64 (a * ((2 ^ n : Nat) : Int)) b = a * ((2 ^ n : Nat) : Int) + b := by
  obtain ⟨x, rfl⟩ := Int.eq_ofNat_of_zero_le ha
  obtain ⟨y, rfl⟩ := Int.eq_ofNat_of_zero_le hb
  have e : ((x : Int) * ((2 ^ n : Nat) : Int)) = ((x * 2 ^ n : Nat) : Int) := by simp
  rw [e] at hs ⊢
  have hb2 : y < 2 ^ n := by exact_mod_cast hb'
  rw [bits_or_u64_nat _ _ (by omega) (by omega)]
  have := Nat.shiftLeft_add_eq_or_of_lt hb2 x
  rw [Nat.shiftLeft_eq] at this
  rw [← this]
  simp

theorem mask8 (x : Int) (h0 : 0 ≤ x) (h1 : x < 18446744073709551616) : bits .and .u64 x 255 = x % 256 := and_mask 8 (by omega) 255 (by decide) x h0 h1
theorem mask56 (x : Int) (h0 : 0 ≤ x) (h1 : x < 18446744073709551616) : bits .and .u64 x 72057594037927935 = x % 72057594037927936 := and_mask 56 (by omega) 72057594037927935 (by decide) x h0 h1
theorem or8 (a b : Int) (ha : 0 ≤ a) (ha' : a < 256) (hb : 0 ≤ b) (hb' : b < 256) : bits .or .u64 (a * 256) b = a * 256 + b := or_parts 8 a b ha hb (by simpa using hb') (by simp; omega)
theorem or56 (a b : Int) (ha : 0 ≤ a) (ha' : a < 256) (hb : 0 ≤ b) (hb' : b < 72057594037927936) : bits .or .u64 (a * 72057594037927936) b = a * 72057594037927936 + b := or_parts 56 a b ha hb (by simpa using hb') (by simp; omega)
end Go.Proofs.YtflhjbmoncbomaaGreatDoor
namespace Go.Proofs.YtflhjbmoncbomaaGreatDoor
open Go.RowKit

def laidI (k r : Int) : Int := k * 72057594037927936 + r
def hObj (c n : Int) : Int := laidI 1 (c * 256 + n)
def hLink (a : Int) : Int := laidI 2 a
def objOk (c n : Int) : Bool := isCls c && (decide (0 ≤ n) && decide (n ≤ clsRoom c))
def linkOk (a : Int) : Bool := decide (0 ≤ a) && decide (a ≤ 1048576)
theorem objOk_iff {c n : Int} : objOk c n = true ↔ isCls c = true ∧ 0 ≤ n ∧ n ≤ clsRoom c := by unfold objOk; simp
theorem linkOk_iff {a : Int} : linkOk a = true ↔ 0 ≤ a ∧ a ≤ 1048576 := by unfold linkOk; simp
theorem clsRoom_bd (c : Int) : 0 ≤ clsRoom c ∧ clsRoom c ≤ 15 := by
  have := clsSize_bd c
  unfold clsRoom
  split
  · rename_i h; have := clsSize_lo h; omega
  · omega

theorem header_laid (k r : Int) (hk : 0 ≤ k) (hk' : k < 256) (hr : 0 ≤ r) (hr' : Hid (r < 72057594037927936)) (w : World) :
    Calls Tryz.prog 128 #[.int .i64 k, .int .u64 r] w fun e w' => e = .returned (.int .u64 (laidI k r)) ∧ w = w' := by
  have HO := Lib.hid (or56 k r hk hk' hr hr'.out)
  have hw : IntKind.u64.wrap k = k := by rw [IntKind.wrap_u64]; omega
  have HW : Hid (IntKind.u64.wrap (k * 72057594037927936) = k * 72057594037927936) := by show IntKind.u64.wrap _ = _; rw [IntKind.wrap_u64]; omega
  go_enter Tryz.func128, Tryz.ntmps128
  go_wp2
  go_ret
  exact ⟨ret_int (by first | exact HO.out | (rw [HW.out]; exact HO.out)), rfl⟩

theorem header_parts (x : Int) (h0 : 0 ≤ x) (h1 : Hid (x < 18446744073709551616)) (w : World) :
    Calls Tryz.prog 148 #[.int .u64 x] w fun e w' => e = .returned (.tuple #[.int .i64 (x / 256 % 256), .int .i64 (x % 256)]) ∧ w = w' := by
  have hm0 : bits .and .u64 x 255 = x % 256 := mask8 x h0 h1.out
  have hm1 : bits .and .u64 (x / 256) 255 = x / 256 % 256 := mask8 (x / 256) (by omega) (by have := h1.out; omega)
  have a0 : 0 ≤ x % 256 := by omega
  have a1 : x % 256 < 256 := by omega
  have b0 : 0 ≤ x / 256 % 256 := by omega
  have b1 : x / 256 % 256 < 256 := by omega
  go_enter Tryz.func148, Tryz.ntmps148
  go_wp2
  go_ret2
  exact ⟨rfl, rfl⟩

theorem header_address (x : Int) (h0 : 0 ≤ x) (h1 : Hid (x < 18446744073709551616)) (w : World) :
    Calls Tryz.prog 154 #[.int .u64 x] w fun e w' => e = .returned (.int .i64 (x % 72057594037927936)) ∧ w = w' := by
  have HM := Lib.hid (mask56 x h0 h1.out)
  have HW : Hid (wrap64 (x % 72057594037927936) = x % 72057594037927936) := by show wrap64 _ = _; exact IntWalk.wrap64_in _ ⟨by omega, by omega⟩
  go_enter Tryz.func154, Tryz.ntmps154
  go_wp2
  go_ret
  exact ⟨ret_int (by rw [HM.out, HW.out]), rfl⟩

set_option maxHeartbeats 400000 in
theorem header_Object (c n : Int) (w : World) (hS : Sizes w) :
    Calls Tryz.prog 92 #[.int .i64 c, .int .i64 n] w fun e w' => e = .returned (.tuple #[.int .u64 (match objOk c n with | true => hObj c n | false => 0), .bool (objOk c n)]) ∧ w = w' := by
  have HZ := Lib.hid hS
  clear hS
  cases hk : objOk c n
  · cases hc : isCls c
    · have HC := Lib.hid hc
      clear hk hc
      go_enter Tryz.func92, Tryz.ntmps92
      go_wp2_with (go_at_call 118; refine (class_Is _ _).mono ?_; rintro e w' ⟨rfl, rfl⟩; rw [HC.out])
      go_ret2
      exact ⟨rfl, rfl⟩
    · have HC := Lib.hid hc
      by_cases h0 : n < 0
      · clear hk hc
        go_enter Tryz.func92, Tryz.ntmps92
        go_wp2_with (go_at_call 118; refine (class_Is _ _).mono ?_; rintro e w' ⟨rfl, rfl⟩; rw [HC.out])
        go_ret2
        exact ⟨rfl, rfl⟩
      · have h1 : clsRoom c < n := by
          unfold objOk at hk; rw [hc] at hk; simp at hk; omega
        clear hk hc
        go_enter Tryz.func92, Tryz.ntmps92
        go_wp2_with (first | (go_at_call 118; refine (class_Is _ _).mono ?_; rintro e w' ⟨rfl, rfl⟩; rw [HC.out]) | (go_at_call 121; refine (class_Room _ _ HZ.out).mono ?_; rintro e w' ⟨rfl, rfl⟩))
        go_ret2
        exact ⟨rfl, rfl⟩
  · obtain ⟨hc, h0, h1⟩ := objOk_iff.1 hk
    have HC := Lib.hid hc
    have hr := (clsRoom_bd c).2
    obtain ⟨c0, c1⟩ := isCls_iff.1 hc
    clear hk hc
    have hw : IntKind.u64.wrap c = c := by rw [IntKind.wrap_u64]; omega
    have hw2 : IntKind.u64.wrap (c * 256) = c * 256 := by rw [IntKind.wrap_u64]; omega
    have hw3 : IntKind.u64.wrap n = n := by rw [IntKind.wrap_u64]; omega
    have ho := or8 c n c0 (by omega) h0 (by omega)
    have HB : Hid (c * 256 + n < 72057594037927936) := by show c * 256 + n < _; omega
    go_enter Tryz.func92, Tryz.ntmps92
    go_wp2_with (first | (go_at_call 118; refine (class_Is _ _).mono ?_; rintro e w' ⟨rfl, rfl⟩; rw [HC.out]) | (go_at_call 121; refine (class_Room _ _ HZ.out).mono ?_; rintro e w' ⟨rfl, rfl⟩) | (go_at_call 128; refine (header_laid 1 (c * 256 + n) (by omega) (by omega) (by omega) HB _).mono ?_; rintro e w' ⟨rfl, rfl⟩))
    go_ret2
    exact ⟨rfl, rfl⟩

set_option maxHeartbeats 400000 in
theorem header_Link (a : Int) (w : World) :
    Calls Tryz.prog 125 #[.int .i64 a] w fun e w' => e = .returned (.tuple #[.int .u64 (match linkOk a with | true => hLink a | false => 0), .bool (linkOk a)]) ∧ w = w' := by
  cases hk : linkOk a
  · by_cases h0 : a < 0
    · clear hk
      go_enter Tryz.func125, Tryz.ntmps125
      go_wp2_with fail
      go_ret2
      exact ⟨rfl, rfl⟩
    · have h1 : 1048576 < a := by unfold linkOk at hk; simp at hk; omega
      clear hk
      go_enter Tryz.func125, Tryz.ntmps125
      go_wp2_with fail
      go_ret2
      exact ⟨rfl, rfl⟩
  · obtain ⟨h0, h1⟩ := linkOk_iff.1 hk
    clear hk
    have hw : IntKind.u64.wrap a = a := by rw [IntKind.wrap_u64]; omega
    have HB : Hid (a < 72057594037927936) := by show a < _; omega
    go_enter Tryz.func125, Tryz.ntmps125
    go_wp2_with (go_at_call 128; refine (header_laid 2 a (by omega) (by omega) (by omega) HB _).mono ?_; rintro e w' ⟨rfl, rfl⟩)
    go_ret2
    exact ⟨rfl, rfl⟩

/-- Is a word an object's header? A link's? -/
def isObjW (x : Int) : Bool := decide (x / 72057594037927936 = 1) && (objOk (x / 256 % 256) (x % 256) && (hObj (x / 256 % 256) (x % 256) == x))
def isLinkW (x : Int) : Bool := decide (x / 72057594037927936 = 2) && linkOk (x % 72057594037927936)
def kindW (x : Int) : Int := if isObjW x then 1 else if isLinkW x then 2 else 0

set_option maxHeartbeats 800000 in
theorem header_Kind (x : Int) (h0 : 0 ≤ x) (h1 : Hid (x < 18446744073709551616)) (w : World) (hS : Sizes w) :
    Calls Tryz.prog 147 #[.int .u64 x] w fun e w' => e = .returned (.int .i64 (kindW x)) ∧ w = w' := by
  have HZ := Lib.hid hS
  clear hS
  obtain ⟨k, hk⟩ : ∃ k, x / 72057594037927936 = k := ⟨_, rfl⟩
  have k0 : 0 ≤ k := by omega
  have k1 : k < 256 := by have := h1.out; omega
  have HL2 : Hid (linkOk (x % 72057594037927936) = true → (hLink (x % 72057594037927936) == x) = decide (k = 2)) := by
    intro _
    show (hLink (x % 72057594037927936) == x) = decide (k = 2)
    unfold hLink laidI
    rw [Bool.eq_iff_iff]; simp; omega
  have HA := Lib.hid (fun w => header_address x h0 h1 w)
  have HP := Lib.hid (fun w => header_parts x h0 h1 w)
  by_cases c1 : k = 1
  · subst c1
    have HNL : Hid (isLinkW x = false) := by show isLinkW x = false; unfold isLinkW; rw [hk]; simp
    have HIO : Hid (isObjW x = (objOk (x / 256 % 256) (x % 256) && (hObj (x / 256 % 256) (x % 256) == x))) := by show isObjW x = _; unfold isObjW; rw [hk]; simp
    cases ho : objOk (x / 256 % 256) (x % 256)
    · have HR : Hid (kindW x = 0) := by show kindW x = 0; unfold kindW; rw [HIO.out, ho, HNL.out]; rfl
      have HO := Lib.hid ho
      clear ho
      cases hl : linkOk (x % 72057594037927936)
      all_goals
        have HLK := Lib.hid hl
        have HL3 := Lib.hid (fun h => (HL2.out h).trans (show decide ((1 : Int) = 2) = false by decide))
        clear hl
        go_enter Tryz.func147, Tryz.ntmps147
        go_wp2_with (first | (go_at_call 148; refine (HP.out _).mono ?_; rintro e w' ⟨rfl, rfl⟩) | (go_at_call 154; refine (HA.out _).mono ?_; rintro e w' ⟨rfl, rfl⟩) | (go_at_call 92; refine (header_Object _ _ _ HZ.out).mono ?_; rintro e w' ⟨rfl, rfl⟩; rw [HO.out]) | (go_at_call 125; refine (header_Link _ _).mono ?_; rintro e w' ⟨rfl, rfl⟩; rw [HLK.out]; try have hL4 := HL3.out HLK.out))
        go_ret
        exact ⟨ret_int HR.out.symm, rfl⟩
    · cases he : (hObj (x / 256 % 256) (x % 256) == x)
      · have HR : Hid (kindW x = 0) := by show kindW x = 0; unfold kindW; rw [HIO.out, ho, he, HNL.out]; rfl
        have HO := Lib.hid ho
        clear ho
        cases hl : linkOk (x % 72057594037927936)
        all_goals
          have HLK := Lib.hid hl
          have HL3 := Lib.hid (fun h => (HL2.out h).trans (show decide ((1 : Int) = 2) = false by decide))
          clear hl
          go_enter Tryz.func147, Tryz.ntmps147
          go_wp2_with (first | (go_at_call 148; refine (HP.out _).mono ?_; rintro e w' ⟨rfl, rfl⟩) | (go_at_call 154; refine (HA.out _).mono ?_; rintro e w' ⟨rfl, rfl⟩) | (go_at_call 92; refine (header_Object _ _ _ HZ.out).mono ?_; rintro e w' ⟨rfl, rfl⟩; rw [HO.out]) | (go_at_call 125; refine (header_Link _ _).mono ?_; rintro e w' ⟨rfl, rfl⟩; rw [HLK.out]; try have hL4 := HL3.out HLK.out))
          go_ret
          exact ⟨ret_int HR.out.symm, rfl⟩
      · have HR : Hid (kindW x = 1) := by show kindW x = 1; unfold kindW; rw [HIO.out, ho, he]; rfl
        have HO := Lib.hid ho
        clear ho
        go_enter Tryz.func147, Tryz.ntmps147
        go_wp2_with (first | (go_at_call 148; refine (HP.out _).mono ?_; rintro e w' ⟨rfl, rfl⟩) | (go_at_call 154; refine (HA.out _).mono ?_; rintro e w' ⟨rfl, rfl⟩) | (go_at_call 92; refine (header_Object _ _ _ HZ.out).mono ?_; rintro e w' ⟨rfl, rfl⟩; rw [HO.out]))
        go_ret
        exact ⟨ret_int HR.out.symm, rfl⟩
  by_cases c2 : k = 2
  · subst c2
    have HNO : Hid (isObjW x = false) := by show isObjW x = false; unfold isObjW; rw [hk]; simp
    have HIL : Hid (isLinkW x = linkOk (x % 72057594037927936)) := by show isLinkW x = _; unfold isLinkW; rw [hk]; simp
    cases hl : linkOk (x % 72057594037927936)
    · have HR : Hid (kindW x = 0) := by show kindW x = 0; unfold kindW; rw [HNO.out, HIL.out, hl]; rfl
      have HLK := Lib.hid hl
      clear hl
      go_enter Tryz.func147, Tryz.ntmps147
      go_wp2_with (first | (go_at_call 154; refine (HA.out _).mono ?_; rintro e w' ⟨rfl, rfl⟩) | (go_at_call 125; refine (header_Link _ _).mono ?_; rintro e w' ⟨rfl, rfl⟩; rw [HLK.out]))
      go_ret
      exact ⟨ret_int HR.out.symm, rfl⟩
    · have HR : Hid (kindW x = 2) := by show kindW x = 2; unfold kindW; rw [HNO.out, HIL.out, hl]; rfl
      have hL4 := (HL2.out hl).trans (show decide ((2 : Int) = 2) = true by decide)
      have HLK := Lib.hid hl
      clear hl
      go_enter Tryz.func147, Tryz.ntmps147
      go_wp2_with (first | (go_at_call 154; refine (HA.out _).mono ?_; rintro e w' ⟨rfl, rfl⟩) | (go_at_call 125; refine (header_Link _ _).mono ?_; rintro e w' ⟨rfl, rfl⟩; rw [HLK.out]))
      go_ret
      exact ⟨ret_int HR.out.symm, rfl⟩
  have HR : Hid (kindW x = 0) := by
    show kindW x = 0
    unfold kindW
    rw [if_neg (by unfold isObjW; simp; omega), if_neg (by unfold isLinkW; simp; omega)]
  have hb1 : (k == 1) = false := by simp; omega
  have hb2 : (k == 2) = false := by simp; omega
  go_enter Tryz.func147, Tryz.ntmps147
  go_wp2_with fail
  go_ret
  exact ⟨ret_int HR.out.symm, rfl⟩

theorem kindW_obj {x : Int} (h : isObjW x = true) : kindW x = 1 := by unfold kindW; rw [h]; rfl
theorem kindW_link {x : Int} (h : isLinkW x = true) : kindW x = 2 := by
  unfold kindW
  have : isObjW x = false := by
    unfold isLinkW at h; unfold isObjW
    simp only [Bool.and_eq_true, decide_eq_true_eq] at h
    rw [show decide (x / 72057594037927936 = 1) = false by simp; omega]; rfl
  rw [this, h]; rfl
theorem kindW_no {x : Int} (h : isObjW x = false) (h' : isLinkW x = false) : kindW x = 0 := by unfold kindW; rw [h, h']; rfl

theorem header_Parse (x : Int) (h0 : 0 ≤ x) (h1 : Hid (x < 18446744073709551616)) (w : World) (hS : Sizes w) :
    Calls Tryz.prog 130 #[.int .u64 x] w fun e w' => e = .returned (.tuple #[.int .i64 (match isObjW x with | true => x / 256 % 256 | false => 0), .int .i64 (match isObjW x with | true => x % 256 | false => 0), .bool (isObjW x)]) ∧ w = w' := by
  have HZ := Lib.hid hS
  have HP := Lib.hid (fun w => header_parts x h0 h1 w)
  cases hk : isObjW x
  · have HK : Hid (kindW x = 0 ∨ kindW x = 2) := by
      show kindW x = 0 ∨ kindW x = 2
      cases hl : isLinkW x
      · exact .inl (kindW_no hk hl)
      · exact .inr (kindW_link hl)
    clear hk
    rcases HK.out with h | h
    all_goals
      have HK2 := Lib.hid h
      clear h
      go_enter Tryz.func130, Tryz.ntmps130
      go_wp2_with (go_at_call 147; refine (header_Kind x h0 h1 _ HZ.out).mono ?_; rintro e w' ⟨rfl, rfl⟩; rw [HK2.out])
      go_ret3
      exact ⟨rfl, rfl⟩
  · have HK2 := Lib.hid (kindW_obj hk)
    clear hk
    go_enter Tryz.func130, Tryz.ntmps130
    go_wp2_with (first | (go_at_call 147; refine (header_Kind x h0 h1 _ HZ.out).mono ?_; rintro e w' ⟨rfl, rfl⟩; rw [HK2.out]) | (go_at_call 148; refine (HP.out _).mono ?_; rintro e w' ⟨rfl, rfl⟩))
    go_ret3
    exact ⟨rfl, rfl⟩

theorem header_Next (x : Int) (h0 : 0 ≤ x) (h1 : Hid (x < 18446744073709551616)) (w : World) (hS : Sizes w) :
    Calls Tryz.prog 142 #[.int .u64 x] w fun e w' => e = .returned (.tuple #[.int .i64 (match isLinkW x with | true => x % 72057594037927936 | false => 0), .bool (isLinkW x)]) ∧ w = w' := by
  have HZ := Lib.hid hS
  have HA := Lib.hid (fun w => header_address x h0 h1 w)
  cases hk : isLinkW x
  · have HK : Hid (kindW x = 0 ∨ kindW x = 1) := by
      show kindW x = 0 ∨ kindW x = 1
      cases hl : isObjW x
      · exact .inl (kindW_no hl hk)
      · exact .inr (kindW_obj hl)
    clear hk
    rcases HK.out with h | h
    all_goals
      have HK2 := Lib.hid h
      clear h
      go_enter Tryz.func142, Tryz.ntmps142
      go_wp2_with (go_at_call 147; refine (header_Kind x h0 h1 _ HZ.out).mono ?_; rintro e w' ⟨rfl, rfl⟩; rw [HK2.out])
      go_ret2
      exact ⟨rfl, rfl⟩
  · have HK2 := Lib.hid (kindW_link hk)
    clear hk
    go_enter Tryz.func142, Tryz.ntmps142
    go_wp2_with (first | (go_at_call 147; refine (header_Kind x h0 h1 _ HZ.out).mono ?_; rintro e w' ⟨rfl, rfl⟩; rw [HK2.out]) | (go_at_call 154; refine (HA.out _).mono ?_; rintro e w' ⟨rfl, rfl⟩))
    go_ret2
    exact ⟨rfl, rfl⟩

theorem obj_facts {c n : Int} (h : objOk c n = true) : 0 ≤ hObj c n ∧ hObj c n < 18446744073709551616 ∧ isObjW (hObj c n) = true ∧ isLinkW (hObj c n) = false ∧ hObj c n / 256 % 256 = c ∧ hObj c n % 256 = n ∧ kindW (hObj c n) = 1 := by
  obtain ⟨hc, h0, h1⟩ := objOk_iff.1 h
  have hr := (clsRoom_bd c).2
  obtain ⟨c0, c1⟩ := isCls_iff.1 hc
  have e1 : hObj c n / 256 % 256 = c := by unfold hObj laidI; omega
  have e2 : hObj c n % 256 = n := by unfold hObj laidI; omega
  have e3 : hObj c n / 72057594037927936 = 1 := by unfold hObj laidI; omega
  have e4 : isObjW (hObj c n) = true := by unfold isObjW; rw [e1, e2, e3, h]; simp
  exact ⟨by unfold hObj laidI; omega, by unfold hObj laidI; omega, e4, by unfold isLinkW; rw [e3]; simp, e1, e2, kindW_obj e4⟩
theorem link_facts {a : Int} (h : linkOk a = true) : 0 ≤ hLink a ∧ hLink a < 18446744073709551616 ∧ isLinkW (hLink a) = true ∧ isObjW (hLink a) = false ∧ hLink a % 72057594037927936 = a ∧ kindW (hLink a) = 2 := by
  obtain ⟨h0, h1⟩ := linkOk_iff.1 h
  have e1 : hLink a % 72057594037927936 = a := by unfold hLink laidI; omega
  have e3 : hLink a / 72057594037927936 = 2 := by unfold hLink laidI; omega
  have e4 : isLinkW (hLink a) = true := by unfold isLinkW; rw [e1, e3, h]; simp
  exact ⟨by unfold hLink laidI; omega, by unfold hLink laidI; omega, e4, by unfold isObjW; rw [e3]; simp, e1, kindW_link e4⟩
end Go.Proofs.YtflhjbmoncbomaaGreatDoor
