/- Sets of numbers as words: plain laws; no program in them. Conditions: none. Sets of numbers: New, Size, may, Has, walked. Conditions: none beyond what each says. Sets of numbers: Put, walked. Conditions: none beyond what each says. Sets of numbers: Put and Has of any number. Conditions: none beyond what each says. Sets of numbers: Same, walked. Conditions: none beyond what each says. Sets of numbers: Same, and the law's example, walked. Conditions: none beyond what each says. Sets of numbers: a row of words cloned, and a set copied. Conditions: none beyond what each says. -/
import Derived.Test.YtflhjbmoncbomaaGreatDoorRep
import Derived.Deep.QuietTactic
import Derived.BigQuiet
import Derived.Laws.Bits64b
import Derived.BigRegion
import Derived.Deep.RegionHeld3
namespace Go.Proofs.YtflhjbmoncbomaaGreatDoor

structure WRep (ws : List Nat) (size : Nat) (M : Nat → Bool) : Prop where
  len : ws.length = (size + 63) / 64
  lt : ∀ i, ws.getD i 0 < 18446744073709551616
  bit : ∀ n, (ws.getD (n / 64) 0).testBit (n % 64) = (decide (n < size) && M n)

theorem getD_beyond {ws : List Nat} {i : Nat} (h : ws.length ≤ i) : ws.getD i 0 = 0 := by
  rw [List.getD_eq_getElem?_getD, List.getElem?_eq_none h]; rfl
theorem getD_set' {ws : List Nat} {i j x : Nat} (hi : i < ws.length) : (ws.set i x).getD j 0 = if i = j then x else ws.getD j 0 := by
  rw [List.getD_eq_getElem?_getD, List.getD_eq_getElem?_getD, List.getElem?_set]
  by_cases hij : i = j
  · subst hij; simp [hi]
  · simp [hij]
theorem WRep.zero (size : Nat) : WRep (List.replicate ((size + 63) / 64) 0) size (fun _ => false) := by
  have h0 : ∀ i, (List.replicate ((size + 63) / 64) 0).getD i 0 = 0 := by
    intro i
    rw [List.getD_eq_getElem?_getD, List.getElem?_replicate]
    split <;> rfl
  exact ⟨by simp, fun i => by rw [h0]; omega, fun n => by rw [h0]; simp⟩
theorem WRep.has {ws : List Nat} {size n : Nat} {M : Nat → Bool} (h : WRep ws size M) (hn : n < size) : decide (ws.getD (n / 64) 0 / 2 ^ (n % 64) % 2 = 1) = M n := by
  have := h.bit n
  rw [Nat.testBit_eq_decide_div_mod_eq, decide_eq_true hn, Bool.true_and] at this
  exact this
theorem WRep.idx {ws : List Nat} {size n : Nat} {M : Nat → Bool} (h : WRep ws size M) (hn : n < size) : n / 64 < ws.length := by rw [h.len]; omega
theorem WRep.put {ws : List Nat} {size n : Nat} {M : Nat → Bool} {b : Bool} (h : WRep ws size M) (hn : n < size) (hb : M n ≠ b) : WRep (ws.set (n / 64) (ws.getD (n / 64) 0 ^^^ 2 ^ (n % 64))) size (fun k => if k = n then b else M k) := by
  have hi := h.idx hn
  have h2 : (2 : Nat) ^ (n % 64) < 2 ^ 64 := Nat.pow_lt_pow_right (by omega) (by omega)
  refine ⟨by rw [List.length_set]; exact h.len, fun i => ?_, fun k => ?_⟩
  · rw [getD_set' hi]
    split
    · exact Nat.xor_lt_two_pow (n := 64) (h.lt _) h2
    · exact h.lt i
  · rw [getD_set' hi]
    by_cases hk : n / 64 = k / 64
    · rw [if_pos hk, Nat.testBit_xor, Nat.testBit_two_pow]
      have h1 := h.bit k
      rw [← hk] at h1
      rw [h1]
      by_cases hkn : k = n
      · subst hkn
        rw [if_pos rfl, decide_eq_true hn]
        cases hm : M k <;> cases b <;> simp_all
      · have : n % 64 ≠ k % 64 := by omega
        rw [if_neg hkn, decide_eq_false this]; simp
    · rw [if_neg hk, h.bit k, if_neg (by rintro rfl; exact hk rfl)]
theorem WRep.eq {ws us : List Nat} {size : Nat} {M M' : Nat → Bool} (h : WRep ws size M) (g : WRep us size M') : ws = us ↔ ∀ n, n < size → M n = M' n := by
  constructor
  · rintro rfl n hn
    have h1 := h.bit n
    have h2 := g.bit n
    rw [h1] at h2
    simpa [hn] using h2
  · intro hh
    apply List.ext_getElem (by rw [h.len, g.len])
    intro i h1 h2
    have e1 : ws.getD i 0 = ws[i] := by simp [List.getD_eq_getElem?_getD, h1]
    have e2 : us.getD i 0 = us[i] := by simp [List.getD_eq_getElem?_getD, h2]
    rw [← e1, ← e2]
    apply Nat.eq_of_testBit_eq
    intro j
    by_cases hj : j < 64
    · have a := h.bit (i * 64 + j)
      have b := g.bit (i * 64 + j)
      rw [show (i * 64 + j) / 64 = i by omega, show (i * 64 + j) % 64 = j by omega] at a b
      rw [a, b]
      by_cases hs : i * 64 + j < size
      · rw [hh _ hs]
      · simp [hs]
    · have p : (18446744073709551616 : Nat) ≤ 2 ^ j := Nat.le_trans (by decide : (18446744073709551616 : Nat) ≤ 2 ^ 64) (Nat.pow_le_pow_right (by omega) (by omega))
      rw [Nat.testBit_lt_two_pow (Nat.lt_of_lt_of_le (h.lt i) p), Nat.testBit_lt_two_pow (Nat.lt_of_lt_of_le (g.lt i) p)]
end Go.Proofs.YtflhjbmoncbomaaGreatDoor
namespace Go.Proofs.YtflhjbmoncbomaaGreatDoor
open Go.RowKit

abbrev u64s (ws : List Nat) : List Value := ws.map fun (x : Nat) => Value.int .u64 (x : Int)
/-- A set: its box, its words, what it has. -/
structure SetAt (w : World) (p q cap : Nat) (ws : List Nat) (size : Nat) (M : Nat → Bool) : Prop where
  box : w.heap[p]? = some (.cells #[.slice (some ⟨q, 0, none⟩) ws.length cap, .int .i64 size] 143)
  row : RowAt w q 113 cap (u64s ws)
  rep : WRep ws size M
  le : size ≤ 2097152
theorem SetAt.ne {w : World} {p q cap : Nat} {ws : List Nat} {size : Nat} {M : Nat → Bool} (h : SetAt w p q cap ws size M) : p ≠ q := by
  rintro rfl
  obtain ⟨_, h1, _⟩ := h.row
  have := h.box.symm.trans h1
  simp at this
theorem SetAt.touch {S : Nat → Prop} {w w' : World} {p q cap : Nat} {ws : List Nat} {size : Nat} {M : Nat → Bool} (h : SetAt w p q cap ws size M) (ht : Touch S w w') (hp : ¬ S p) (hq : ¬ S q) : SetAt w' p q cap ws size M :=
  ⟨blk_touch h.box ht hp, h.row.touch ht hq, h.rep, h.le⟩

theorem made_u64s (n : Nat) : (madeCells (Value.int .u64 0).cells (n * 1)).toList = u64s (List.replicate n 0) := by
  apply List.ext_getElem?
  intro i
  simp only [madeCells, Nat.mul_one, Array.toList_map, Array.toList_range, List.getElem?_map]
  by_cases hi : i < n
  · simp [hi, Value.cells, Nat.mod_one]
  · simp [hi]

set_option maxRecDepth 20000 in
theorem bits_New_ok (n : Nat) (hn : n ≤ 2097152) (w : World) :
    Calls Tryz.prog 60 #[.int .i64 n] w fun e w' => ∃ p q cap ws, e = .returned (.tuple #[.pointer (some ⟨p, 0, none⟩), .int .i64 0]) ∧ Touch nob w w' ∧ w.heap.size ≤ p ∧ w.heap.size ≤ q ∧ SetAt w' p q cap ws n (fun _ => false) := by
  obtain ⟨i0, hi, hz0, hz1, hz2⟩ := info_parts info_u64
  obtain ⟨m, hm⟩ : ∃ m, m = (n + 63) / 64 := ⟨_, rfl⟩
  have hml : m ≤ 32768 := by omega
  have HMM := Lib.hid hm
  clear hm
  go_enter Tryz.func60, Tryz.ntmps60
  go_wp2_with (at_make; refine wpList_make_full _ rfl _ _ 136 rfl w.heap.size 113 i0 (.int .u64 0) 1 Tryz.underlying136 hi hz0 hz1 .i64 .i64 _ _ m rfl rfl (by have := HMM.out; omega) (by have := HMM.out; omega) (by rw [hz2]; omega) (by unfold maxLen; omega) (Nat.le_refl _) ?_; intro w1 hown hgrow; have HX := Lib.hid (And.intro hown hgrow); clear hown hgrow)
  go_ret2
  obtain ⟨hown, hgrow⟩ := HX.out
  rw [made_u64s] at hown
  obtain ⟨hr, _, _⟩ := RowAt.of_owns hown
  have hT : Touch nob w w1 := (Touch.refl nob w).grown hgrow (fun _ h => by cases h)
  refine ⟨w1.heap.size, w.heap.size, m, List.replicate m 0, rfl, hT.alloc _, hgrow.size, Nat.le_refl _, ⟨(World.alloc_heap_new w1 _).trans (by rw [List.length_replicate]), hr.touch ((Touch.refl nob _).alloc _) (fun x => x), by rw [HMM.out]; exact WRep.zero n, hn⟩⟩
theorem bits_New_no (n : Int) (hn : n < 0 ∨ 2097152 < n) (w : World) :
    Calls Tryz.prog 60 #[.int .i64 n] w fun e w' => e = .returned (.tuple #[.pointer none, .int .i64 4]) ∧ w = w' := by
  rcases hn with h | h
  all_goals
    go_enter Tryz.func60, Tryz.ntmps60
    go_wp2
    go_ret2
    exact ⟨rfl, rfl⟩

variable {w : World} {p q cap : Nat} {ws : List Nat} {size : Nat} {M : Nat → Bool}
theorem set_Size (h : SetAt w p q cap ws size M) :
    Calls Tryz.prog 139 #[.pointer (some ⟨p, 0, none⟩)] w fun e w' => e = .returned (.int .i64 size) ∧ w = w' := by
  obtain ⟨d0, d1, e0, e1⟩ := box2 h.box
  clear h
  go_enter Tryz.func139, Tryz.ntmps139
  go_wp2
  go_ret
  exact ⟨rfl, rfl⟩
def mayB (size : Nat) (n : Int) : Bool := decide (0 ≤ n) && decide (n < size)
theorem set_may (n : Int) (h : SetAt w p q cap ws size M) :
    Calls Tryz.prog 115 #[.pointer (some ⟨p, 0, none⟩), .int .i64 n] w fun e w' => e = .returned (.bool (mayB size n)) ∧ w = w' := by
  have H := Lib.hid h
  clear h
  by_cases hn : 0 ≤ n
  · go_enter Tryz.func115, Tryz.ntmps115
    go_wp2_with (go_at_call 139; refine (set_Size H.out).mono ?_; rintro e w' ⟨rfl, rfl⟩)
    go_ret
    exact ⟨ret_b (by unfold mayB; simp [hn]), rfl⟩
  · have hn' : n < 0 := by omega
    have hm : mayB size n = false := by unfold mayB; rw [decide_eq_false hn]; rfl
    have HM := Lib.hid hm
    clear hm
    go_enter Tryz.func115, Tryz.ntmps115
    go_wp2_with (go_at_call 139; refine (set_Size H.out).mono ?_; rintro e w' ⟨rfl, rfl⟩)
    go_ret
    exact ⟨ret_b (by rw [HM.out]), rfl⟩
theorem set_Has_no (n : Int) (h : SetAt w p q cap ws size M) (hn : mayB size n = false) :
    Calls Tryz.prog 76 #[.pointer (some ⟨p, 0, none⟩), .int .i64 n] w fun e w' => e = .returned (.bool false) ∧ w = w' := by
  go_enter Tryz.func76, Tryz.ntmps76
  go_wp2_with (go_at_call 115; fail)
  refine (set_may n h).mono ?_
  rintro e w' ⟨rfl, rfl⟩
  rw [hn]
  go_wp2
  go_ret
  exact ⟨rfl, rfl⟩
theorem u64_cell {w : World} {q cap : Nat} {ws : List Nat} (h : RowAt w q 113 cap (u64s ws)) {i : Nat} (hi : i < ws.length) : w.cell? ⟨q, i, none⟩ = some (.int .u64 ((ws.getD i 0 : Nat) : Int)) := by
  rw [h.cell (j := i) (by simpa using hi)]
  simp [List.getD_eq_getElem?_getD, hi]
theorem and_one_u64 (X : Nat) (hX : X < 18446744073709551616) (j : Nat) : bits .and .u64 ((X : Int) / 2 ^ j) 1 = ((X / 2 ^ j % 2 : Nat) : Int) := by
  have h1 : (X : Int) / 2 ^ j = ((X / 2 ^ j : Nat) : Int) := by simp
  have h2 : X / 2 ^ j < 18446744073709551616 := Nat.lt_of_le_of_lt (Nat.div_le_self _ _) hX
  rw [h1]
  have := bits_and_u64_nat (X / 2 ^ j) 1 h2 (by omega)
  rw [show ((1 : Nat) : Int) = 1 from rfl] at this
  rw [this, Nat.and_one_is_mod]
theorem set_Has_ok (n : Nat) (h : SetAt w p q cap ws size M) (hn : n < size) :
    Calls Tryz.prog 76 #[.pointer (some ⟨p, 0, none⟩), .int .i64 n] w fun e w' => e = .returned (.bool (M n)) ∧ w = w' := by
  have hm : mayB size n = true := by unfold mayB; simp [hn]
  obtain ⟨d0, d1, e0, e1⟩ := box2 h.box
  have hi := h.rep.idx hn
  have dq := u64_cell h.row hi
  have hX := h.rep.lt (n / 64)
  have HB := Lib.hid (h.rep.has hn)
  have hle := h.le
  obtain ⟨_, _, _, hcap, _⟩ := id h.row
  rw [List.length_map] at hcap
  go_enter Tryz.func76, Tryz.ntmps76
  go_wp2_with (go_at_call 115; fail)
  refine (set_may n h).mono ?_
  rintro e w' ⟨rfl, rfl⟩
  rw [hm]
  clear h hm
  obtain ⟨X, hX0⟩ : ∃ X, ws.getD (n / 64) 0 = X := ⟨_, rfl⟩
  rw [hX0] at dq hX HB
  clear hX0
  have hb : (n : Int) / 64 < (ws.length : Int) := by omega
  go_wp2
  go_ret
  exact ⟨ret_b (by rw [and_one_u64 X hX, ← HB.out]; rcases Nat.mod_two_eq_zero_or_one (X / 2 ^ (n % 64)) with h | h <;> simp [h]), rfl⟩
end Go.Proofs.YtflhjbmoncbomaaGreatDoor
namespace Go.Proofs.YtflhjbmoncbomaaGreatDoor
open Go.RowKit

variable {w : World} {p q cap : Nat} {ws : List Nat} {size : Nat} {M : Nat → Bool}
theorem set_Put_out (n : Int) (b : Bool) (h : SetAt w p q cap ws size M) (hn : mayB size n = false) :
    Calls Tryz.prog 87 #[.pointer (some ⟨p, 0, none⟩), .int .i64 n, .bool b] w fun e w' => e = .returned (.bool false) ∧ w = w' := by
  go_enter Tryz.func87, Tryz.ntmps87
  go_wp2_with (go_at_call 115; fail)
  refine (set_may n h).mono ?_
  rintro e w' ⟨rfl, rfl⟩
  rw [hn]
  go_wp2
  go_ret
  exact ⟨rfl, rfl⟩
theorem set_Put_same (n : Nat) (b : Bool) (h : SetAt w p q cap ws size M) (hn : n < size) (hb : M n = b) :
    Calls Tryz.prog 87 #[.pointer (some ⟨p, 0, none⟩), .int .i64 n, .bool b] w fun e w' => e = .returned (.bool false) ∧ w = w' := by
  have hm : mayB size n = true := by unfold mayB; simp [hn]
  go_enter Tryz.func87, Tryz.ntmps87
  go_wp2_with (go_at_call 115; fail)
  refine (set_may n h).mono ?_
  rintro e w' ⟨rfl, rfl⟩
  rw [hm]
  go_wp2_with (go_at_call 76; fail)
  refine (set_Has_ok n h hn).mono ?_
  rintro e w' ⟨rfl, rfl⟩
  rw [hb]
  clear h
  cases b
  all_goals
    go_wp2
    go_ret
    exact ⟨rfl, rfl⟩
theorem xor_u64 (X : Nat) (hX : X < 18446744073709551616) (j : Nat) (hj : j < 64) : bits .xor .u64 (X : Int) (2 ^ j) = ((X ^^^ 2 ^ j : Nat) : Int) := by
  have h2 : (2 : Nat) ^ j < 18446744073709551616 := Nat.lt_of_lt_of_le (Nat.pow_lt_pow_right (by omega) hj) (by decide)
  have := bits_xor_u64_nat X (2 ^ j) hX h2
  rw [← this]; simp
set_option maxHeartbeats 1000000 in
theorem set_Put_ok (n : Nat) (b : Bool) (h : SetAt w p q cap ws size M) (hn : n < size) (hb : M n ≠ b) :
    Calls Tryz.prog 87 #[.pointer (some ⟨p, 0, none⟩), .int .i64 n, .bool b] w fun e w' => e = .returned (.bool true) ∧ Touch (fun k => k = q) w w' ∧ SetAt w' p q cap (ws.set (n / 64) (ws.getD (n / 64) 0 ^^^ 2 ^ (n % 64))) size (fun k => if k = n then b else M k) := by
  have hm : mayB size n = true := by unfold mayB; simp [hn]
  obtain ⟨d0, d1, e0, e1⟩ := box2 h.box
  have hi := h.rep.idx hn
  have dq := u64_cell h.row hi
  have dqf := h.row.free (n / 64)
  have hX := h.rep.lt (n / 64)
  have hle := h.le
  have hne := h.ne
  obtain ⟨_, _, _, hcap, _⟩ := id h.row
  rw [List.length_map] at hcap
  have hMb : (M n == b) = false := by cases hx : M n <;> cases b <;> simp_all
  go_enter Tryz.func87, Tryz.ntmps87
  go_wp2_with (go_at_call 115; fail)
  refine (set_may n h).mono ?_
  rintro e w' ⟨rfl, rfl⟩
  rw [hm]
  go_wp2_with (go_at_call 76; fail)
  refine (set_Has_ok n h hn).mono ?_
  rintro e w' ⟨rfl, rfl⟩
  have H := Lib.hid h
  clear h hm
  obtain ⟨X, hX0⟩ : ∃ X, ws.getD (n / 64) 0 = X := ⟨_, rfl⟩
  rw [hX0] at dq hX
  have HX0 := Lib.hid hX0
  clear hX0
  have hbb : (n : Int) / 64 < (ws.length : Int) := by omega
  go_wp2_with fail
  go_region
  have hj : n % 64 < 64 := Nat.mod_lt _ (by omega)
  have hv : bits .xor .u64 (X : Int) (IntKind.u64.wrap (2 ^ (n % 64))) = ((X ^^^ 2 ^ (n % 64) : Nat) : Int) := by
    have h2 : (2 : Nat) ^ (n % 64) < 18446744073709551616 := Nat.lt_of_lt_of_le (Nat.pow_lt_pow_right (by omega) hj) (by decide)
    have h3 : IntKind.u64.wrap ((2 : Int) ^ (n % 64)) = 2 ^ (n % 64) := by
      rw [IntKind.wrap_u64]
      have h4 : ((2 : Int) ^ (n % 64)) = ((2 ^ (n % 64) : Nat) : Int) := by simp
      rw [h4]
      exact Int.emod_eq_of_lt (Int.natCast_nonneg _) (Int.ofNat_lt.2 h2)
    rw [h3]
    exact xor_u64 X hX _ hj
  rw [hv]
  have HV := Lib.hid hv
  clear hv dq dqf d0 d1 e0 e1
  go_wp2
  go_ret
  rw [HX0.out]
  refine ⟨rfl, Touch.drew (Touch.setCell (S := fun k => k = q) (Touch.refl _ _) (.inl rfl) _), ?_, ?_, ?_, H.out.le⟩
  · rw [List.length_set]; exact (set_other _ hne).trans H.out.box
  · rw [show u64s (ws.set (n / 64) (X ^^^ 2 ^ (n % 64))) = (u64s ws).set (n / 64) (.int .u64 ((X ^^^ 2 ^ (n % 64) : Nat) : Int)) from List.map_set ..]
    exact H.out.row.set _ _
  · have := H.out.rep.put hn hb
    rwa [HX0.out] at this
end Go.Proofs.YtflhjbmoncbomaaGreatDoor
namespace Go.Proofs.YtflhjbmoncbomaaGreatDoor
open Go.RowKit

variable {w : World} {p q cap : Nat} {ws : List Nat} {size : Nat} {M : Nat → Bool}
def hasB (M : Nat → Bool) (size : Nat) (n : Int) : Bool := mayB size n && M n.toNat
def putB (M : Nat → Bool) (size : Nat) (n : Int) (b : Bool) : Bool := mayB size n && (M n.toNat != b)
def putM (M : Nat → Bool) (size : Nat) (n : Int) (b : Bool) : Nat → Bool := fun k => if mayB size n = true ∧ k = n.toNat then b else M k
theorem may_nat {size : Nat} {n : Int} (h : mayB size n = true) : ∃ k : Nat, n = k ∧ k < size := by
  unfold mayB at h
  simp only [Bool.and_eq_true, decide_eq_true_eq] at h
  exact ⟨n.toNat, by omega, by omega⟩
theorem set_Has (n : Int) (h : SetAt w p q cap ws size M) :
    Calls Tryz.prog 76 #[.pointer (some ⟨p, 0, none⟩), .int .i64 n] w fun e w' => e = .returned (.bool (hasB M size n)) ∧ w = w' := by
  cases hm : mayB size n
  · refine (set_Has_no n h hm).mono fun e w' g => ⟨?_, g.2⟩
    rw [g.1]; unfold hasB; rw [hm]; rfl
  · obtain ⟨k, rfl, hk⟩ := may_nat hm
    refine (set_Has_ok k h hk).mono fun e w' g => ⟨?_, g.2⟩
    rw [g.1]; unfold hasB; rw [hm]; rfl
theorem set_Put (n : Int) (b : Bool) (h : SetAt w p q cap ws size M) :
    Calls Tryz.prog 87 #[.pointer (some ⟨p, 0, none⟩), .int .i64 n, .bool b] w fun e w' => ∃ ws', e = .returned (.bool (putB M size n b)) ∧ Touch (fun k => k = q) w w' ∧ SetAt w' p q cap ws' size (putM M size n b) := by
  cases hm : mayB size n
  · refine (set_Put_out n b h hm).mono fun e w' g => ⟨ws, ?_, ?_, ?_⟩
    · rw [g.1]; unfold putB; rw [hm]; rfl
    · rw [← g.2]; exact Touch.refl _ _
    · rw [← g.2, show putM M size n b = M from funext fun k => by unfold putM; rw [if_neg (by rw [hm]; simp)]]; exact h
  · obtain ⟨k, rfl, hk⟩ := may_nat hm
    by_cases hb : M k = b
    · refine (set_Put_same k b h hk hb).mono fun e w' g => ⟨ws, ?_, ?_, ?_⟩
      · rw [g.1]; unfold putB; rw [hm]; simp [hb]
      · rw [← g.2]; exact Touch.refl _ _
      · rw [← g.2, show putM M size k b = M from funext fun j => by
          unfold putM
          split
          · rename_i hh
            rw [hh.2, ← hb]; rfl
          · rfl]; exact h
    · refine (set_Put_ok k b h hk hb).mono fun e w' g => ⟨ws.set (k / 64) (ws.getD (k / 64) 0 ^^^ 2 ^ (k % 64)), ?_, g.2.1, ?_⟩
      · rw [g.1]; unfold putB; rw [hm]; simp [hb]
      · have := g.2.2
        rwa [show (fun j => if j = k then b else M j) = putM M size k b from funext fun j => by unfold putM; rw [hm]; simp] at this
end Go.Proofs.YtflhjbmoncbomaaGreatDoor
namespace Go.Proofs.YtflhjbmoncbomaaGreatDoor
open Go.RowKit

variable {w : World} {p q cap p' q' cap' : Nat} {ws us : List Nat} {size size' : Nat} {M M' : Nat → Bool}
end Go.Proofs.YtflhjbmoncbomaaGreatDoor
namespace Go.Proofs.YtflhjbmoncbomaaGreatDoor
open Go.RowKit

variable {w : World} {p q cap p' q' cap' : Nat} {ws us : List Nat} {size size' : Nat} {M M' : Nat → Bool}
/-- Whether two sets are the same. -/
def sameB (ws us : List Nat) (size size' : Nat) : Bool := decide (size = size') && decide (ws = us)
theorem words_le (h : SetAt w p q cap ws size M) : ws.length ≤ 1048576 := by have := h.rep.len; have := h.le; omega
end Go.Proofs.YtflhjbmoncbomaaGreatDoor
namespace Go.Proofs.YtflhjbmoncbomaaGreatDoor
open Go.RowKit

variable {w : World} {p q cap : Nat} {ws : List Nat} {size : Nat} {M : Nat → Bool}
theorem u64s_int (l : List Nat) : u64s l = (l.map fun (x : Nat) => (x : Int)).map (Value.int .u64) := by simp [u64s]
theorem clone_u64 (q cap : Nat) (ws : List Int) (w : World) (h : RowAt w q 113 cap (ws.map (.int .u64))) (h2 : ws.length ≤ 1048576) :
    Calls Tryz.prog 107 #[.slice (some ⟨q, 0, none⟩) ws.length cap] w fun e w' => ∃ g cap', e = .returned (.slice (some ⟨g, 0, none⟩) ws.length cap') ∧ Touch nob w w' ∧ w.heap.size ≤ g ∧ RowAt w' g 113 cap' (ws.map (.int .u64)) := by
  obtain ⟨i0, hi, hz0, hz1, hz2⟩ := info_parts info_u64
  have hq := h.lt
  have HC := Lib.hid (fun j u (hj : (ws.map (Value.int .u64))[j]? = some u) => show w.cell? ⟨q, j, none⟩ = some u by
    obtain ⟨hl, rfl⟩ := List.getElem?_eq_some_iff.1 hj
    exact h.cell hl)
  clear h
  have hsn : ∀ (a : Addr) (l c : Nat) (w : World), (binOp .eql 136 (.slice (some a) l c) (.slice none 0 0)).run Tryz.prog w = .ok (.bool false) w := fun _ _ _ _ => by kernel_rfl
  by_cases h1 : 1 ≤ ws.length
  · go_enter Tryz.func107, Tryz.ntmps107
    go_wp2_with (at_builtin; refine wpList_append_grows _ rfl (.tmp 5) (.tmp 6) 136 rfl 113 i0 (.int .u64 0) 1 8 Tryz.underlying136 hi hz0 hz1 hz2 rfl (by decide) _ 0 0 [] rfl (by intro h; exact ⟨rfl, rfl⟩) rfl (by intro _ _ j u hj; simp at hj) ⟨q, 0, none⟩ ws.length cap (ws.map (.int .u64)) rfl (by simp) ?c1 (ints_oneCell _ _) (by omega) (by unfold maxLen; omega) (by omega) ?_; rotate_right; intro v1 w1 hown hgrow; have HX := Lib.hid (And.intro hown hgrow); clear hown hgrow)
    case c1 =>
      intro j u hj
      have h0 := HC.out j u hj
      rw [Addr.add_lit, Nat.zero_add]
      exact (World.cell?_of_block (a := ⟨q, j, none⟩) (Below.heap_alloc _ _ _ hq)).trans h0
    go_ret
    obtain ⟨hown, hgrow⟩ := HX.out
    simp only [Nat.zero_add, List.nil_append] at hown
    obtain ⟨g, cap', rfl, hg, hr, _⟩ := RowAt.of_owns_some hown (by omega)
    exact ⟨g, cap', rfl, Touch.grown ((Touch.refl nob w).alloc _) hgrow (fun _ h => by cases h), by rw [World.size_alloc] at hg; omega, hr⟩
  · obtain rfl : ws = [] := by cases ws <;> simp_all
    go_enter Tryz.func107, Tryz.ntmps107
    go_wp2_with fail
    go_ret
    exact ⟨w.heap.size, 0, rfl, (Touch.refl nob w).alloc _, Nat.le_refl _, ⟨#[], World.alloc_heap_new w _, rfl, Nat.le_refl _, rfl⟩⟩
theorem clone_words (h : RowAt w q 113 cap (u64s ws)) (h2 : ws.length ≤ 1048576) :
    Calls Tryz.prog 107 #[.slice (some ⟨q, 0, none⟩) ws.length cap] w fun e w' => ∃ g cap', e = .returned (.slice (some ⟨g, 0, none⟩) ws.length cap') ∧ Touch nob w w' ∧ w.heap.size ≤ g ∧ RowAt w' g 113 cap' (u64s ws) := by
  have := clone_u64 q cap (ws.map fun (x : Nat) => (x : Int)) w (by rw [← u64s_int]; exact h) (by rw [List.length_map]; exact h2)
  rwa [← u64s_int, List.length_map] at this

set_option maxHeartbeats 400000 in
theorem set_Copy (h : SetAt w p q cap ws size M) :
    Calls Tryz.prog 61 #[.pointer (some ⟨p, 0, none⟩)] w fun e w' => ∃ p' g cap', e = .returned (.pointer (some ⟨p', 0, none⟩)) ∧ Touch nob w w' ∧ w.heap.size ≤ p' ∧ w.heap.size ≤ g ∧ SetAt w' p' g cap' ws size M := by
  obtain ⟨d0, d1, e0, e1⟩ := box2 h.box
  have HH := Lib.hid (fun w' (ht : Touch nob w w') => h.touch ht (fun x => x) (fun x => x))
  have HC := Lib.hid (fun w' (ht : Touch nob w w') => show Touch nob w w' ∧ w'.cell? ⟨p, 0, none⟩ = some (.slice (some ⟨q, 0, none⟩) ws.length cap) ∧ w'.cell? ⟨p, 1, none⟩ = some (.int .i64 size) from
    have hb := box2 (h.touch ht (fun x => x) (fun x => x)).box
    ⟨ht, hb.1, hb.2.1⟩)
  clear h
  go_enter Tryz.func61, Tryz.ntmps61
  go_wp2_with fail
  go_region_held3 (fun w' => Touch nob w w' ∧ w'.cell? ⟨p, 0, none⟩ = some (.slice (some ⟨q, 0, none⟩) ws.length cap) ∧ w'.cell? ⟨p, 1, none⟩ = some (.int .i64 size)) (first | exact HC.out _ (by first | assumption | (repeat (first | with_reducible exact Touch.refl _ _ | with_reducible assumption | with_reducible apply Touch.alloc | with_reducible apply Touch.drewN | with_reducible apply Touch.drew | with_reducible refine Touch.setCell ?_ (.inr (by first | omega | (simp; done) | (simp; omega))) _)))) (first | (go_at_call 107; refine (clone_words (HH.out _ (by (repeat (first | with_reducible exact Touch.refl _ _ | with_reducible assumption | with_reducible apply Touch.alloc | with_reducible apply Touch.drewN | with_reducible apply Touch.drew | with_reducible refine Touch.setCell ?_ (.inr (by first | omega | (simp; done) | (simp; omega))) _)))).row (words_le (HH.out _ (by (repeat (first | with_reducible exact Touch.refl _ _ | with_reducible assumption | with_reducible apply Touch.alloc | with_reducible apply Touch.drewN | with_reducible apply Touch.drew | with_reducible refine Touch.setCell ?_ (.inr (by first | omega | (simp; done) | (simp; omega))) _)))))).mono ?_; rintro e w1 ⟨g, cap', rfl, h1, h2, h3⟩; have hT1 := Touch.trans (S := nob) (show Touch nob w _ by (repeat (first | with_reducible exact Touch.refl _ _ | with_reducible assumption | with_reducible apply Touch.alloc | with_reducible apply Touch.drewN | with_reducible apply Touch.drew | with_reducible refine Touch.setCell ?_ (.inr (by first | omega | (simp; done) | (simp; omega))) _))) h1))
  go_wp2
  go_ret
  have hS := HH.out w (Touch.refl _ _)
  exact ⟨w1.heap.size, g, cap', rfl, hT1.alloc _, h1.size, h2, ⟨World.alloc_heap_new w1 _, h3.touch ((Touch.refl nob _).alloc _) (fun x => x), hS.rep, hS.le⟩⟩
theorem set_Copy_nil (w : World) : Calls Tryz.prog 61 #[.pointer none] w fun e w' => e = .returned (.pointer none) ∧ w = w' := by
  go_enter Tryz.func61, Tryz.ntmps61
  go_wp2
  go_ret
  exact ⟨rfl, rfl⟩
end Go.Proofs.YtflhjbmoncbomaaGreatDoor
