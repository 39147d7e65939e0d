/- HeapMakes, walked. Conditions: the tables of limits, of sizes and of de Bruijn's bits read as laid. -/
import Derived.Test.YtflhjbmoncbomaaDoorLaws11
import Derived.Test.YtflhjbmoncbomaaDoorHpP
import Derived.Test.YtflhjbmoncbomaaDoorU8
import Derived.Test.YtflhjbmoncbomaaDoorIn
import Derived.Test.YtflhjbmoncbomaaDoorLittle
import Derived.Test.YtflhjbmoncbomaaDoorSeven
namespace Go.Proofs.YtflhjbmoncbomaaDoor
open Go.RowKit

variable {W w w' : World} {A : HA} {c : Cf} {S S' : HS} {H : Nat → List Nat}
theorem sx_one (w : World) (x : Int) : Sx (w.alloc (Obj.cells #[.int .i64 x] 3)) (.slice (some ⟨w.heap.size, 0, none⟩) 1 1) [x] := by
  refine .inr ⟨w.heap.size, 0, 1, rfl, fun j u hj => ?_⟩
  obtain ⟨hl, rfl⟩ := List.getElem?_eq_some_iff.1 hj
  have h0 : j = 0 := by simpa using hl
  subst h0
  exact one_cell (World.alloc_heap_new w _)
/-- Two rows beside a heap. -/
structure MtI (W : World) (A : HA) (c : Cf) (B : Nat) (wr : World) (va vf : Value) (xs fs : List Int) (S : HS) (H : Nat → List Nat) : Prop where
  hp : HpI W wr A c S H
  lo : ∀ b ∈ A.all, b < B
  wB : W.heap.size ≤ B
  bs : B ≤ wr.heap.size
  oa : Ow wr B va xs
  of' : Ow wr B vf fs
  ap : ∀ k, va.ownBlock = some k → vf.ownBlock ≠ some k
variable {B : Nat} {wr : World} {va vf : Value} {xs fs zs : List Int}
theorem MtI.heap {H' : Nat → List Nat} (h : MtI W A c B wr va vf xs fs S H) (ht : Touch (HT A) wr w') (hi : HpI W w' A c S' H') : MtI W A c B w' va vf xs fs S' H' := by
  have no : ∀ k, B ≤ k → ¬ HT A k := fun k hk hm => by have := h.lo k hm; omega
  exact ⟨hi, h.lo, h.wB, Nat.le_trans h.bs ht.size, h.oa.touch ht (fun g hg => no _ (h.oa.new g hg)), h.of'.touch ht (fun g hg => no _ (h.of'.new g hg)), h.ap⟩
theorem MtI.grow (h : MtI W A c B wr va vf xs fs S H) {T : Nat → Prop} (ht : Touch T wr w') (hT : ∀ k, T k → B ≤ k) : HpI W w' A c S H ∧ B ≤ w'.heap.size := by
  have := h.wB
  exact ⟨h.hp.touch (h.hp.at'.base.step ht (fun i hi => .inr (by have := hT i hi; omega))) ht (fun b hb x => by have := hT b x; have := h.lo b hb; omega), Nat.le_trans h.bs ht.size⟩
theorem MtI.old (h : MtI W A c B wr va vf xs fs S H) (ht : Touch nob wr w') : MtI W A c B w' va vf xs fs S H := h.heap ht.hnob (h.hp.old ht)
theorem MtI.app_a {v3 : Value} {w3 : World} (h : MtI W A c B wr va vf xs fs S H) (ho : Ow w3 B v3 (xs ++ zs)) (hg : wr.grownBy w3 va.ownBlock) (hat : v3.ownBlock = va.ownBlock ∨ v3.ownBlock = some wr.heap.size) : MtI W A c B w3 v3 vf (xs ++ zs) fs S H := by
  have hT : Touch (fun j => va.ownBlock = some j) wr w3 := Touch.grown (Touch.refl _ _) hg (fun j hj => .inl hj)
  obtain ⟨h1, h2⟩ := h.grow hT (fun k hk => h.oa.new k hk)
  refine ⟨h1, h.lo, h.wB, h2, ho, h.of'.touch hT (fun g hg e => h.ap g e hg), fun k hk => ?_⟩
  rcases hat with e | e
  · rw [e] at hk; exact h.ap k hk
  · rw [e] at hk
    cases hk
    intro e2
    have := h.of'.old _ e2
    omega
theorem MtI.app_f {v3 : Value} {w3 : World} (h : MtI W A c B wr va vf xs fs S H) (ho : Ow w3 B v3 (fs ++ zs)) (hg : wr.grownBy w3 vf.ownBlock) (hat : v3.ownBlock = vf.ownBlock ∨ v3.ownBlock = some wr.heap.size) : MtI W A c B w3 va v3 xs (fs ++ zs) S H := by
  have hT : Touch (fun j => vf.ownBlock = some j) wr w3 := Touch.grown (Touch.refl _ _) hg (fun j hj => .inl hj)
  obtain ⟨h1, h2⟩ := h.grow hT (fun k hk => h.of'.new k hk)
  refine ⟨h1, h.lo, h.wB, h2, h.oa.touch hT (fun g hg e => h.ap g hg e), ho, fun k hk e2 => ?_⟩
  rcases hat with e | e
  · rw [e] at e2; exact h.ap k hk e2
  · rw [e] at e2
    cases e2
    have := h.oa.old _ hk
    omega
/-- What the lists tell of the heap. -/
structure MtP (c : Cf) (S : HS) (xs fs : List Int) (z : Nat) : Prop where
  z : S.s.ws.length = z
  len : fs.length = xs.length
  ob : ∀ i, i < xs.length → ∃ j : Nat, xs.getD i 0 = j + 1 ∧ S.B (j + 1) = true ∧ clsA c S.s.ks (j + 1) = clsOf (fs.getD i 0) ∧ 0 ≤ fs.getD i 0 ∧ fs.getD i 0 ≤ 15
theorem MtP.ev {z : Nat} (h : MtP c S xs fs z) (he : Ev c S S') (hi : HInv c S H) : MtP c S' xs fs z :=
  ⟨he.len.trans h.z, h.len, fun i hl => by
    obtain ⟨j, e1, e2, e3, e4⟩ := h.ob i hl
    obtain ⟨j', q1, _, q3, _⟩ := hi.ob _ e2
    obtain rfl : j = j' := by omega
    exact ⟨j, e1, (he.ob j e2).1, (he.own hi.ok q3).2.trans e3, e4⟩⟩
theorem MtP.kq {z : Nat} (h : MtP c S xs fs z) (he : Kq c S S') : MtP c S' xs fs z :=
  ⟨he.len.trans h.z, h.len, fun i hl => by
    obtain ⟨j, e1, e2, e3, e4⟩ := h.ob i hl
    exact ⟨j, e1, by rw [he.B]; exact e2, by rw [he.ks]; exact e3, e4⟩⟩
theorem MtP.snoc {z : Nat} (h : MtP c S xs fs z) {j : Nat} {f : Int} (hB : S.B (j + 1) = true) (hc : clsA c S.s.ks (j + 1) = clsOf f) (hf : 0 ≤ f ∧ f ≤ 15) : MtP c S (xs ++ [(j : Int) + 1]) (fs ++ [f]) z := by
  refine ⟨h.z, by rw [List.length_append, List.length_append, h.len]; rfl, fun i hl => ?_⟩
  by_cases hi : i < xs.length
  · rw [getD_append_left hi, getD_append_left (by rw [h.len]; exact hi)]
    exact h.ob i hi
  · have e : i = xs.length := by rw [List.length_append] at hl; simp at hl; omega
    subst e
    have e2 : (fs ++ [f]).getD xs.length 0 = f := by rw [← h.len]; exact getD_snoc
    rw [getD_snoc, e2]
    exact ⟨j, rfl, hB, hc, hf⟩
theorem makE_cases {n : Nat} {f col : Int} (hf : 0 ≤ f ∧ f ≤ 15) (hc : col = 0 ∨ col = 1) : makE S H n f col = 0 ∨ makE S H n f col = 10 := by
  have ho : ofOk f = true := by unfold ofOk; rw [decide_eq_true hf.1, decide_eq_true hf.2]; rfl
  have hk := (clsOf_is hf.1 hf.2).1
  unfold makE
  rw [if_pos ho, if_pos hc]
  unfold sloE
  split
  · unfold HS.asgE
    rw [if_pos hk]
    split
    · exact .inl rfl
    · exact .inr rfl
  · rename_i h12
    left
    unfold takE at h12 ⊢
    rw [if_pos hk] at h12 ⊢
    split
    · rename_i h0
      rw [if_pos h0] at h12
      exact absurd rfl h12
    · rfl
/-- A slot that is freed is the next one of its class. -/
theorem free_make (h : HpI W w A c S H) {j : Nat} {f : Int} {n : Nat} (hB : S.B (j + 1) = true) (hc : clsA c S.s.ks (j + 1) = clsOf f) (hf : 0 ≤ f ∧ f ≤ 15) : S.freE (j + 1) = 0 ∧ makE (S.freS c (j + 1)) (freH S c H (j + 1)) n f 0 = 0 ∧ makV (S.freS c (j + 1)) (freH S c H (j + 1)) c n f 0 = j + 1 := by
  obtain ⟨j', q1, q2, q3, q4, q5⟩ := h.inv.ob _ hB
  obtain rfl : j = j' := by omega
  have hobj : S.obj ((j : Int) + 1) = true := by rw [h.obj_nat q2]; exact hB
  obtain ⟨u1, u2⟩ := h.unb hobj
  obtain ⟨j', k, e1, hk, e3, e4, e5, _, _⟩ := u2.putS u1
  obtain rfl : j = j' := by omega
  have hH : freH S c H (j + 1) = updH H k (j :: H k) := by
    unfold freH
    rw [if_pos hobj]
    exact e5
  have e3 : clsA c S.s.ks (j + 1) = k := e3
  have hkf : clsOf f = (k : Int) := hc.symm.trans e3
  have ho : ofOk f = true := by unfold ofOk; rw [decide_eq_true hf.1, decide_eq_true hf.2]; rfl
  have htE : takE (updH H k (j :: H k)) (k : Int) = 0 := by
    unfold takE updH
    rw [if_pos (isCls_nat hk), Int.toNat_natCast, if_pos rfl, if_neg (List.cons_ne_nil _ _)]
  have htV : takV (updH H k (j :: H k)) (k : Int) = j + 1 := by
    unfold takV updH
    rw [if_pos (isCls_nat hk), Int.toNat_natCast, if_pos rfl]
    rfl
  have hmE : makE (S.freS c (j + 1)) (updH H k (j :: H k)) n f 0 = 0 := by
    unfold makE
    rw [if_pos ho, if_pos (.inl rfl), hkf]
    unfold sloE
    rw [htE]
    rfl
  rw [hH]
  refine ⟨by unfold HS.freE; rw [if_pos hobj], hmE, ?_⟩
  unfold makV
  rw [if_pos hmE, hkf]
  unfold sloV
  rw [htE, if_neg (by decide)]
  exact htV
end Go.Proofs.YtflhjbmoncbomaaDoor
