/- How many bits a word has: plain laws; no program in them. Conditions: none. -/
import Derived.Test.YtflhjbmoncbomaaGreatDoorRep
namespace Go.Proofs.YtflhjbmoncbomaaGreatDoor

/-- How many k < n there are with M k. -/
def cnt (M : Nat → Bool) : Nat → Nat
  | 0 => 0
  | n + 1 => cnt M n + (M n).toNat
theorem cnt_add (M : Nat → Bool) (a : Nat) : ∀ b, cnt M (a + b) = cnt M a + cnt (fun j => M (a + j)) b
  | 0 => rfl
  | b + 1 => by
    have := cnt_add M a b
    show cnt M (a + b) + (M (a + b)).toNat = cnt M a + (cnt _ b + (M (a + b)).toNat)
    omega
theorem cnt_congr {M M' : Nat → Bool} : ∀ {n : Nat}, (∀ k, k < n → M k = M' k) → cnt M n = cnt M' n
  | 0, _ => rfl
  | n + 1, h => by
    show cnt M n + _ = cnt M' n + _
    rw [cnt_congr (n := n) (fun k hk => h k (by omega)), h n (by omega)]
theorem cnt_le (M : Nat → Bool) : ∀ n, cnt M n ≤ n
  | 0 => Nat.le_refl _
  | n + 1 => by
    have := cnt_le M n
    show cnt M n + _ ≤ _
    cases M n <;> simp <;> omega
theorem cnt_none {M : Nat → Bool} : ∀ {n : Nat}, (∀ k, k < n → M k = false) → cnt M n = 0
  | 0, _ => rfl
  | n + 1, h => by
    show cnt M n + _ = 0
    rw [cnt_none (n := n) (fun k hk => h k (by omega)), h n (by omega)]; rfl

def mk (m : Nat) : Nat → Nat
  | 0 => 0
  | k + 1 => 256 * mk m k + m
def p1 (k x : Nat) : Nat := (x / 2 &&& mk 85 k) + (x &&& mk 85 k)
def p2 (k x : Nat) : Nat := (x / 4 &&& mk 51 k) + (x &&& mk 51 k)
def p3 (k x : Nat) : Nat := (x / 16 + x) &&& mk 15 k
def b1 (l : Nat) : Nat := (l / 2 &&& 85) + (l &&& 85)
def b2 (l : Nat) : Nat := (l / 4 &&& 51) + (l &&& 51)
def pop8 (l : Nat) : Nat := (b2 (b1 l) / 16 + b2 (b1 l)) % 16

theorem and_split (h l M m : Nat) (hl : l < 256) (hm : m < 256) : (256 * h + l) &&& (256 * M + m) = 256 * (h &&& M) + (l &&& m) := by
  have hlm : l &&& m < 2 ^ 8 := Nat.and_lt_two_pow _ (by omega)
  apply Nat.eq_of_testBit_eq
  intro j
  rw [Nat.testBit_and, show (256 : Nat) = 2 ^ 8 by rfl, Nat.testBit_two_pow_mul_add _ (by omega), Nat.testBit_two_pow_mul_add _ (by omega), Nat.testBit_two_pow_mul_add _ hlm]
  split
  · rw [Nat.testBit_and]
  · rw [Nat.testBit_and]
theorem b1_top : ∀ c : Fin 2, ∀ l : Fin 256, (128 * c.val + l.val / 2) &&& 85 = l.val / 2 &&& 85 := by decide +kernel
theorem b2_top : ∀ c : Fin 4, ∀ l : Fin 256, (64 * c.val + l.val / 4) &&& 51 = l.val / 4 &&& 51 := by decide +kernel
theorem b1_lt : ∀ l : Fin 256, b1 l.val < 256 := by decide +kernel
theorem b2_bd : ∀ l : Fin 256, b2 (b1 l.val) ≤ 68 ∧ b2 (b1 l.val) % 16 ≤ 4 ∧ pop8 l.val ≤ 8 := by decide +kernel
theorem pop8_cnt : ∀ l : Fin 256, pop8 l.val = cnt l.val.testBit 8 := by decide +kernel

theorem p1_split (k h l : Nat) (hl : l < 256) : p1 (k + 1) (256 * h + l) = 256 * p1 k h + b1 l := by
  have e : (256 * h + l) / 2 = 256 * (h / 2) + (128 * (h % 2) + l / 2) := by omega
  unfold p1
  show ((256 * h + l) / 2 &&& (256 * mk 85 k + 85)) + ((256 * h + l) &&& (256 * mk 85 k + 85)) = _
  rw [e, and_split _ _ _ _ (by omega) (by omega), and_split _ _ _ _ hl (by omega), b1_top ⟨h % 2, by omega⟩ ⟨l, hl⟩]
  unfold b1
  show 256 * _ + (l / 2 &&& 85) + _ = _
  omega
theorem p2_split (k h l : Nat) (hl : l < 256) : p2 (k + 1) (256 * h + l) = 256 * p2 k h + b2 l := by
  have e : (256 * h + l) / 4 = 256 * (h / 4) + (64 * (h % 4) + l / 4) := by omega
  unfold p2
  show ((256 * h + l) / 4 &&& (256 * mk 51 k + 51)) + ((256 * h + l) &&& (256 * mk 51 k + 51)) = _
  rw [e, and_split _ _ _ _ (by omega) (by omega), and_split _ _ _ _ hl (by omega), b2_top ⟨h % 4, by omega⟩ ⟨l, hl⟩]
  unfold b2
  show 256 * _ + (l / 4 &&& 51) + _ = _
  omega
theorem p3_split (k h l : Nat) (hl : l ≤ 68) (hh : h % 16 ≤ 4) : p3 (k + 1) (256 * h + l) = 256 * p3 k h + (l / 16 + l) % 16 := by
  have e : (256 * h + l) / 16 + (256 * h + l) = 256 * (h / 16 + h) + (16 * (h % 16) + l / 16 + l) := by omega
  unfold p3
  show ((256 * h + l) / 16 + (256 * h + l)) &&& (256 * mk 15 k + 15) = _
  rw [e, and_split _ _ _ _ (by omega) (by omega), Nat.and_two_pow_sub_one_eq_mod _ 4]
  omega
def ps : Nat → Nat → Nat
  | 0, _ => 0
  | k + 1, x => 256 * ps k (x / 256) + pop8 (x % 256)
theorem pp_low (k x : Nat) : p2 k (p1 k x) % 16 ≤ 4 := by
  cases k with
  | zero => simp [p2, mk]
  | succ k =>
    obtain ⟨h, l, hl, rfl⟩ : ∃ h l, l < 256 ∧ x = 256 * h + l := ⟨x / 256, x % 256, by omega, by omega⟩
    rw [p1_split _ _ _ hl, p2_split _ _ _ (b1_lt ⟨l, hl⟩)]
    have h2 : b2 (b1 l) % 16 ≤ 4 := (b2_bd ⟨l, hl⟩).2.1
    show (256 * _ + b2 (b1 l)) % 16 ≤ 4
    omega
theorem pp_eq : ∀ k x, p3 k (p2 k (p1 k x)) = ps k x
  | 0, x => by simp [p3, mk, ps]
  | k + 1, x => by
    have e : x = 256 * (x / 256) + x % 256 := by omega
    have h1 := b1_lt ⟨x % 256, by omega⟩
    have h2 := b2_bd ⟨x % 256, by omega⟩
    simp only at h1 h2
    show _ = 256 * ps k (x / 256) + pop8 (x % 256)
    rw [← pp_eq k (x / 256)]
    conv => lhs; rw [e]
    rw [p1_split _ _ _ (by omega), p2_split _ _ _ h1, p3_split _ _ _ h2.1 (pp_low k _)]
    rfl
theorem byte_cnt (x i : Nat) : pop8 (x / 256 ^ i % 256) = cnt (fun j => x.testBit (8 * i + j)) 8 := by
  rw [pop8_cnt ⟨x / 256 ^ i % 256, Nat.mod_lt _ (by omega)⟩]
  refine cnt_congr fun j hj => ?_
  show (x / 256 ^ i % 256).testBit j = _
  rw [show (256 : Nat) = 2 ^ 8 by rfl, Nat.testBit_mod_two_pow, decide_eq_true hj, Bool.true_and, ← Nat.pow_mul, Nat.testBit_div_two_pow]
  congr 1
  omega
/-- What OnesCount64 reckons. -/
def ones (x : Nat) : Nat := cnt x.testBit 64
theorem ones_le (x : Nat) : ones x ≤ 64 := cnt_le _ _
/-- A word by its bytes' counts, the least one ahead. -/
structure Horner (s : Nat) (c a : Nat → Nat) : Prop where
  at0 : a 0 = s
  step : ∀ i, i < 8 → a i = c i + 256 * a (i + 1)
  top : a 8 = 0
  le : ∀ i, c i ≤ 8
theorem ones_bytes (x : Nat) : ∃ c a, Horner (p3 8 (p2 8 (p1 8 x))) c a ∧ ones x = c 0 + c 1 + c 2 + c 3 + c 4 + c 5 + c 6 + c 7 := by
  refine ⟨fun i => pop8 (x / 256 ^ i % 256), fun i => ps (8 - i) (x / 256 ^ i), ⟨?_, ?_, rfl, fun i => (b2_bd ⟨x / 256 ^ i % 256, Nat.mod_lt _ (by omega)⟩).2.2⟩, ?_⟩
  · rw [pp_eq]; simp
  · intro i hi
    obtain ⟨k, hk⟩ : ∃ k, 8 - i = k + 1 := ⟨7 - i, by omega⟩
    have hk' : 8 - (i + 1) = k := by omega
    show ps (8 - i) _ = _ + 256 * ps (8 - (i + 1)) _
    rw [hk, hk', Nat.pow_succ, ← Nat.div_div_eq_div_mul]
    exact Nat.add_comm _ _
  · unfold ones
    simp only [byte_cnt]
    have h : ∀ i, cnt x.testBit (8 * i + 8) = cnt x.testBit (8 * i) + cnt (fun j => x.testBit (8 * i + j)) 8 := fun i => cnt_add _ _ _
    have h0 := h 0; have h1 := h 1; have h2 := h 2; have h3 := h 3; have h4 := h 4; have h5 := h 5; have h6 := h 6; have h7 := h 7
    simp only [Nat.reduceMul, Nat.reduceAdd] at h0 h1 h2 h3 h4 h5 h6 h7 ⊢
    have hz : cnt x.testBit 0 = 0 := rfl
    rw [h7, h6, h5, h4, h3, h2, h1, h0, hz]
    simp only [Nat.zero_add]
theorem ones_fold {s : Nat} {c a : Nat → Nat} (h : Horner s c a) :
    ∃ t u v, s + s / 256 = t ∧ t + t / 65536 = u ∧ u + u / 4294967296 = v ∧ v < 9223372036854775808 ∧ v % 128 = c 0 + c 1 + c 2 + c 3 + c 4 + c 5 + c 6 + c 7 := by
  have hs := h.at0
  have e0 := h.step 0 (by omega); have e1 := h.step 1 (by omega); have e2 := h.step 2 (by omega); have e3 := h.step 3 (by omega)
  have e4 := h.step 4 (by omega); have e5 := h.step 5 (by omega); have e6 := h.step 6 (by omega); have e7 := h.step 7 (by omega)
  have e8 := h.top
  have l0 := h.le 0; have l1 := h.le 1; have l2 := h.le 2; have l3 := h.le 3; have l4 := h.le 4; have l5 := h.le 5; have l6 := h.le 6; have l7 := h.le 7
  clear h
  simp only [Nat.reduceAdd] at e0 e1 e2 e3 e4 e5 e6 e7
  generalize a 0 = a0 at *; generalize a 1 = a1 at *; generalize a 2 = a2 at *; generalize a 3 = a3 at *; generalize a 4 = a4 at *
  generalize a 5 = a5 at *; generalize a 6 = a6 at *; generalize a 7 = a7 at *; generalize a 8 = a8 at *
  generalize c 0 = c0 at *; generalize c 1 = c1 at *; generalize c 2 = c2 at *; generalize c 3 = c3 at *
  generalize c 4 = c4 at *; generalize c 5 = c5 at *; generalize c 6 = c6 at *; generalize c 7 = c7 at *
  have s1 : s / 256 = a1 := by clear e1 e2 e3 e4 e5 e6 e7; omega
  have s2 : (a0 + a1) / 65536 = a2 + a3 := by
    have p0 : a0 = c0 + 256 * c1 + 65536 * a2 := by clear e2 e3 e4 e5 e6 e7; omega
    have p1 : a1 = c1 + 256 * c2 + 65536 * a3 := by clear e0 e3 e4 e5 e6 e7; omega
    clear e0 e1 e2 e3 e4 e5 e6 e7; omega
  have s3 : (a0 + a1 + (a2 + a3)) / 4294967296 = a4 + a5 + a6 + a7 := by
    have p0 : a0 = c0 + 256 * c1 + 65536 * c2 + 16777216 * c3 + 4294967296 * a4 := by clear e4 e5 e6 e7; omega
    have p1 : a1 = c1 + 256 * c2 + 65536 * c3 + 16777216 * c4 + 4294967296 * a5 := by clear e0 e5 e6 e7; omega
    have p2 : a2 = c2 + 256 * c3 + 65536 * c4 + 16777216 * c5 + 4294967296 * a6 := by clear e0 e1 e6 e7; omega
    have p3 : a3 = c3 + 256 * c4 + 65536 * c5 + 16777216 * c6 + 4294967296 * a7 := by clear e0 e1 e2 e7; omega
    clear e0 e1 e2 e3 e4 e5 e6 e7; omega
  have b6 : a6 ≤ 256 * 8 + 8 := by omega
  have b5 : a5 ≤ 256 * 2056 + 8 := by clear e6 e7; omega
  have b4 : a4 ≤ 256 * 526344 + 8 := by clear e6 e7 e5; omega
  have b3 : a3 ≤ 256 * 134744072 + 8 := by clear e6 e7 e5 e4; omega
  have b2 : a2 ≤ 256 * 34494482440 + 8 := by clear e6 e7 e5 e4 e3; omega
  have b1 : a1 ≤ 256 * 8830587504648 + 8 := by clear e6 e7 e5 e4 e3 e2; omega
  have b0 : a0 ≤ 256 * 2260630401189896 + 8 := by clear e6 e7 e5 e4 e3 e2 e1; omega
  refine ⟨_, _, _, rfl, rfl, rfl, ?_, ?_⟩
  · rw [s1, ← hs, s2, s3]; clear e0 e1 e2 e3 e4 e5 e6; omega
  · rw [s1, ← hs, s2, s3]
    have : a0 + a1 + (a2 + a3) + (a4 + a5 + a6 + a7) = (c0 + c1 + c2 + c3 + c4 + c5 + c6 + c7) + 128 * (2 * (a1 + a2 + a3 + a4 + a5 + a6 + a7 + a8)) := by clear b0 b1 b2 b3 b4 b5 b6; omega
    rw [this, Nat.add_mul_mod_self_left]
    clear e0 e1 e2 e3 e4 e5 e6 e7; omega
end Go.Proofs.YtflhjbmoncbomaaGreatDoor
