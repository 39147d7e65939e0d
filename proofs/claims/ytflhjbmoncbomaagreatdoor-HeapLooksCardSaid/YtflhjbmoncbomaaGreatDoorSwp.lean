/- What a sweep leaves, and frees: plain laws. Conditions: none. -/
import Derived.Test.YtflhjbmoncbomaaGreatDoorSw1
namespace Go.Proofs.YtflhjbmoncbomaaGreatDoor
open Go.RowKit

variable {c : Cf} {S S' : HS} {H H' : Nat → List Nat} {a b col : Int} {n : Nat} {ks : List Int}
theorem Kp.obj (h : Kp c S S' a) (hne : b ≠ a) : S'.obj b = S.obj b := by
  unfold HS.obj hasB
  rw [h.len]
  cases hm : mayB (S.s.ws.length + 1) b
  · rfl
  · obtain ⟨x, rfl, _⟩ := may_nat hm
    rw [Int.toNat_natCast, h.B x hne]
theorem Kp.colV (h : Kp c S S' a) (hne : b ≠ a) : S'.colV b = S.colV b := by
  have hc : S'.colB b = S.colB b := by
    unfold HS.colB hasB
    rw [h.len]
    cases hm : mayB (S.s.ws.length + 1) b
    · rfl
    · obtain ⟨x, rfl, _⟩ := may_nat hm
      rw [Int.toNat_natCast, h.K x hne]
  unfold HS.colV
  rw [h.obj hne, hc]
/-- What freeing leaves. -/
structure Fre (c : Cf) (S S' : HS) (a : Int) : Prop where
  obj : ∀ b, S'.obj b = if b = a then false else S.obj b
  col : ∀ b, b ≠ a → S'.colV b = S.colV b
  ks : S'.s.ks = S.s.ks
  len : S'.s.ws.length = S.s.ws.length
  x : S'.x = S.x
theorem HInv.free (hi : HInv c S H) (ho : S.obj a = true) : HInv c (S.freS c a) (freH S c H a) ∧ Fre c S (S.freS c a) a := by
  obtain ⟨ow, fr, bg⟩ := hi.obj_own ho
  obtain ⟨j, k, ej, hj, hk, hc, ho'⟩ := hi.slot_of ow
  have e := unb_nat hj
  rw [← ej] at e
  have h1 : HInv c (S.unb a) H := by rw [e]; exact hi.unborn j
  have kp : Kp c S (S.unb a) a := by
    rw [e, ej]
    exact ⟨rfl, rfl, fun _ _ => rfl, fun x hx => if_neg (by omega), fun _ _ => rfl, fun _ _ _ _ _ => rfl⟩
  have hob : (S.unb a).obj a = false := by
    rw [e, ej]
    unfold HS.obj
    exact (hasB_nat (n := S.s.ws.length) hj).trans (if_pos rfl)
  have hfr : (S.unb a).fre a = false := by
    rw [e]
    exact fr
  have hhd : (S.unb a).hand c a = true := by
    unfold HS.hand
    rw [hob, hfr, show (S.unb a).own c a = true by rw [e]; exact ow]
    rfl
  obtain ⟨j', k', ej', _, _, e1, _, h2, _⟩ := h1.putS hhd
  obtain rfl : j = j' := by omega
  have eS : S.freS c a = (S.unb a).putS c a := by unfold HS.freS; rw [if_pos ho]
  have eH : freH S c H a = putH (S.unb a) c H a := by unfold freH; rw [if_pos ho]
  have hown1 : ownB c (S.unb a).s.ks ((j : Int) + 1) = true := by rw [kp.ks]; exact ho'
  have kp2 : Kp c (S.unb a) ((S.unb a).putS c a) a := by
    have hk := Kp.put (k := k') h1 hown1
    rw [← ej'] at hk
    rw [e1]
    exact hk
  have kp3 := kp.trans kp2
  rw [eS, eH]
  refine ⟨h2, fun b => ?_, fun b hb => kp3.colV hb, kp3.ks, kp3.len, ?_⟩
  · by_cases hb : b = a
    · rw [if_pos hb, hb]
      have hlt : j < (S.unb a).s.ws.length := by rw [kp.len]; exact hj
      rw [e1, ej']
      unfold HS.obj
      have hl2 : ({ S.unb ((j : Int) + 1) with s := (S.unb ((j : Int) + 1)).s.put j k' } : HS).s.ws.length = S.s.ws.length := by
        rw [← ej', ← e1]
        exact kp3.len
      rw [hl2, hasB_nat hj, ← ej', e]
      exact if_pos rfl
    · rw [if_neg hb]
      exact kp3.obj hb
  · rw [e1, e]
/-- What a sweep leaves. -/
structure Swd (c : Cf) (col : Int) (l : List Int) (p p' : HS × (Nat → List Nat)) : Prop where
  inv : HInv c p'.1 p'.2
  obj : ∀ b, p'.1.obj b = (p.1.obj b && !(decide (b ∈ l) && p.1.gone col b))
  cl : ∀ b, p'.1.obj b = true → p'.1.colV b = p.1.colV b
  ks : p'.1.s.ks = p.1.s.ks
  len : p'.1.s.ws.length = p.1.s.ws.length
  x : p'.1.x = p.1.x
theorem gone_obj (h : S.gone col a = true) : S.obj a = true := by
  unfold HS.gone at h
  simp only [Bool.and_eq_true] at h
  exact h.1
theorem swStep_no {p : HS × (Nat → List Nat)} (h : p.1.gone col a = false) : swStep c col p a = p := by
  unfold swStep
  rw [h]
  simp
theorem swStep_yes {p : HS × (Nat → List Nat)} (h : p.1.gone col a = true) : swStep c col p a = (p.1.freS c a, freH p.1 c p.2 a) := by
  unfold swStep
  rw [h]
  simp
theorem swP_facts : ∀ (l : List Int) (p : HS × (Nat → List Nat)), HInv c p.1 p.2 → Swd c col l p (swP c col l p)
  | [], p, hi => ⟨hi, fun b => by simp [swP], fun _ _ => rfl, rfl, rfl, rfl⟩
  | a :: l, p, hi => by
    show Swd c col (a :: l) p (swP c col l (swStep c col p a))
    cases hg : p.1.gone col a
    · rw [swStep_no hg]
      obtain ⟨g1, g2, g3, g4, g5, g6⟩ := swP_facts l p hi
      refine ⟨g1, fun b => ?_, g3, g4, g5, g6⟩
      rw [g2 b]
      by_cases hb : b = a
      · subst hb
        rw [hg]
        simp
      · simp [hb]
    · rw [swStep_yes hg]
      obtain ⟨h1, f⟩ := hi.free (gone_obj hg)
      obtain ⟨g1, g2, g3, g4, g5, g6⟩ := swP_facts l (p.1.freS c a, freH p.1 c p.2 a) h1
      refine ⟨g1, fun b => ?_, fun b hb => ?_, g4.trans f.ks, g5.trans f.len, g6.trans f.x⟩
      · rw [g2 b]
        show ((p.1.freS c a).obj b && !(decide (b ∈ l) && (p.1.freS c a).gone col b)) = _
        by_cases hb : b = a
        · subst hb
          rw [f.obj b, if_pos rfl, hg]
          simp
        · unfold HS.gone
          rw [f.obj b, if_neg hb, f.col b hb]
          simp [hb]
      · have hb2 := hb
        rw [g2 b] at hb2
        simp only [Bool.and_eq_true] at hb2
        have hb3 : (p.1.freS c a).obj b = true := hb2.1
        have hne : b ≠ a := fun e => by rw [f.obj b, if_pos e] at hb3; cases hb3
        rw [g3 b hb]
        exact f.col b hne
theorem swL_filter : ∀ (l : List Int) (p : HS × (Nat → List Nat)), HInv c p.1 p.2 → l.Nodup → swL c col l p = l.filter fun a => p.1.gone col a
  | [], _, _, _ => rfl
  | a :: l, p, hi, hn => by
    obtain ⟨hna, hn'⟩ := List.nodup_cons.1 hn
    show (if p.1.gone col a = true then [a] else []) ++ swL c col l (swStep c col p a) = _
    cases hg : p.1.gone col a
    · rw [swStep_no hg, swL_filter l p hi hn', List.filter_cons, hg]
      simp
    · obtain ⟨h1, f⟩ := hi.free (gone_obj hg)
      rw [swStep_yes hg, swL_filter l _ h1 hn', List.filter_cons, hg]
      simp only [if_true, List.singleton_append, List.cons.injEq, true_and]
      refine List.filter_congr fun b hb => ?_
      have hne : b ≠ a := fun e => hna (e ▸ hb)
      unfold HS.gone
      rw [f.obj b, if_neg hne, f.col b hne]
theorem asc_ext : ∀ (l1 l2 : List Int), l1.Pairwise (· < ·) → l2.Pairwise (· < ·) → (∀ x, x ∈ l1 ↔ x ∈ l2) → l1 = l2
  | [], [], _, _, _ => rfl
  | [], y :: l2, _, _, h => absurd ((h y).2 (List.mem_cons_self ..)) (by simp)
  | x :: l1, [], _, _, h => absurd ((h x).1 (List.mem_cons_self ..)) (by simp)
  | x :: l1, y :: l2, h1, h2, h => by
    obtain ⟨a1, b1⟩ := List.pairwise_cons.1 h1
    obtain ⟨a2, b2⟩ := List.pairwise_cons.1 h2
    have e : x = y := by
      rcases List.mem_cons.1 ((h x).1 (List.mem_cons_self ..)) with e | hx
      · exact e
      · rcases List.mem_cons.1 ((h y).2 (List.mem_cons_self ..)) with e | hy
        · exact e.symm
        · have := a1 y hy
          have := a2 x hx
          omega
    subst e
    congr 1
    refine asc_ext l1 l2 b1 b2 fun z => ?_
    constructor
    · intro hz
      rcases List.mem_cons.1 ((h z).1 (List.mem_cons_of_mem _ hz)) with e | hz'
      · have := a1 z hz
        omega
      · exact hz'
    · intro hz
      rcases List.mem_cons.1 ((h z).2 (List.mem_cons_of_mem _ hz)) with e | hz'
      · have := a2 z hz
        omega
      · exact hz'
theorem slAt_asc (tb : Tb c ks n) (m : Nat) : (slAt c ks m).Pairwise (· < ·) := by
  by_cases hm : m < ks.length
  · have hk := tb.cls m hm
    have z0 := clsSize_lo hk
    have := tb.hn
    have := tb.le
    unfold slAt
    rw [if_pos hm, sl_eq tb.ok hk (by omega) (by omega)]
    refine List.Pairwise.map _ (fun i j (hij : i < j) => ?_) List.pairwise_lt_range
    unfold plA
    have h1 : (i : Int) * clsSize (ks.getD m 0) < (j : Int) * clsSize (ks.getD m 0) := Int.mul_lt_mul_of_pos_right (by omega) (by omega)
    omega
  · unfold slAt
    rw [if_neg hm]
    exact List.Pairwise.nil
theorem allSl_asc (tb : Tb c ks n) : ∀ m, (allSl c ks m).Pairwise (· < ·)
  | 0 => List.Pairwise.nil
  | m + 1 => by
    show (allSl c ks m ++ slAt c ks m).Pairwise (· < ·)
    refine List.pairwise_append.2 ⟨allSl_asc tb m, slAt_asc tb m, fun x hx y hy => ?_⟩
    obtain ⟨b, hb, hx⟩ := (mem_allSl m).1 hx
    have h1 := (tb.slAt hx).2.2
    have h2 := (tb.slAt hy).2.2
    have u := (c1_bd tb.ok).1
    by_cases hlt : x < y
    · exact hlt
    · exfalso
      have := Int.ediv_le_ediv (show 0 < c.c1 by omega) (show y - 1 ≤ x - 1 by omega)
      omega
theorem objs_asc : S.objs.Pairwise (· < ·) := by
  unfold HS.objs elems
  exact List.Pairwise.map _ (fun i j (hij : i < j) => by omega) (List.pairwise_lt_range.filter _)
/-- The slots of all blocks. -/
def HS.all (S : HS) (c : Cf) : List Int := allSl c S.s.ks S.s.ks.length
theorem all_nodup (tb : Tb c S.s.ks n) : (S.all c).Nodup := tb.nodup _ tb.le
/-- All that is freed, in its order. -/
theorem swL_all (tb : Tb c S.s.ks n) (hi : HInv c S H) : swL c col (S.all c) (S, H) = S.objs.filter fun a => S.gone col a := by
  rw [swL_filter _ (S, H) hi (all_nodup tb)]
  refine asc_ext _ _ ((allSl_asc tb _).filter _) (objs_asc.filter _) fun x => ?_
  rw [List.mem_filter, List.mem_filter, mem_objs]
  constructor
  · rintro ⟨_, h⟩
    exact ⟨gone_obj h, h⟩
  · rintro ⟨h1, h2⟩
    exact ⟨tb.mem'.2 (hi.obj_own h1).1, h2⟩
theorem objs_sub_asc {S' : HS} (h : ∀ x, S'.obj x = true ↔ S.obj x = true ∧ S.gone col x = false) : S'.objs = S.objs.filter fun a => !S.gone col a := by
  refine asc_ext _ _ objs_asc (objs_asc.filter _) fun x => ?_
  rw [List.mem_filter, mem_objs, mem_objs, h x]
  simp
/-- All objects have one color. -/
def Clr (S : HS) (k : Int) : Prop := ∀ x, S.obj x = true → S.colV x = k
theorem Clr.none {k : Int} (h : Clr S k) (x : Int) : S.gone k x = false := by
  unfold HS.gone
  cases e : S.obj x
  · rfl
  · rw [h x e]
    simp
theorem Clr.each {k j : Int} (h : Clr S k) (hj : k ≠ j) (x : Int) : S.gone j x = S.obj x := by
  unfold HS.gone
  cases e : S.obj x
  · rfl
  · rw [h x e]
    simp [hj]
/-- All swept once. -/
theorem swd_all (tb : Tb c S.s.ks n) (hi : HInv c S H) (x : Int) : (swP c col (S.all c) (S, H)).1.obj x = (S.obj x && !S.gone col x) := by
  rw [(swP_facts (col := col) (S.all c) (S, H) hi).obj x]
  show (S.obj x && !(decide (x ∈ S.all c) && S.gone col x)) = _
  cases e : S.obj x
  · rfl
  · have : x ∈ S.all c := tb.mem'.2 (hi.obj_own e).1
    simp [this]
theorem swd_clr (tb : Tb c S.s.ks n) (hi : HInv c S H) : Clr (swP c col (S.all c) (S, H)).1 col := by
  intro x hx
  have h1 := (swP_facts (col := col) (S.all c) (S, H) hi).cl x hx
  rw [swd_all tb hi] at hx
  rw [h1]
  simp only [Bool.and_eq_true, Bool.not_eq_true'] at hx
  have := hx.2
  unfold HS.gone at this
  rw [hx.1] at this
  simpa using this
theorem swP_tb (tb : Tb c S.s.ks n) (l : List Int) : Tb c (swP c col l (S, H)).1.s.ks n := by
  rw [swP_ks]
  exact tb
theorem objs_eq (h : ∀ x, S'.obj x = S.obj x) : S'.objs = S.objs := by
  refine asc_ext _ _ objs_asc objs_asc fun x => ?_
  rw [mem_objs, mem_objs, h x]
/-- Where all has the color, nothing is freed. -/
theorem swp_none {k : Int} (h : Clr S k) (tb : Tb c S.s.ks n) (hi : HInv c S H) : swL c k (S.all c) (S, H) = [] ∧ (swP c k (S.all c) (S, H)).1.objs = S.objs ∧ Clr (swP c k (S.all c) (S, H)).1 k := by
  refine ⟨?_, ?_, swd_clr tb hi⟩
  · rw [swL_all tb hi]
    exact List.filter_eq_nil_iff.2 fun x _ => by rw [h.none x]; simp
  · refine objs_eq fun x => ?_
    rw [swd_all tb hi, h.none x]
    simp
/-- Where all has another color, all is freed. -/
theorem swp_each {k j : Int} (h : Clr S k) (hj : k ≠ j) (tb : Tb c S.s.ks n) (hi : HInv c S H) : swL c j (S.all c) (S, H) = S.objs ∧ (swP c j (S.all c) (S, H)).1.objs = [] := by
  refine ⟨?_, ?_⟩
  · rw [swL_all tb hi]
    refine List.filter_eq_self.2 fun x hx => ?_
    rw [h.each hj x]
    exact mem_objs.1 hx
  · refine List.eq_nil_iff_forall_not_mem.2 fun x hx => ?_
    rw [mem_objs, swd_all tb hi, h.each hj x] at hx
    cases e : S.obj x <;> rw [e] at hx <;> cases hx
/-- What is freed is none of what is left. -/
theorem swp_apart (tb : Tb c S.s.ks n) (hi : HInv c S H) {x : Int} (hx : x ∈ swL c col (S.all c) (S, H)) : x ∉ (swP c col (S.all c) (S, H)).1.objs := by
  rw [swL_all tb hi] at hx
  rw [mem_objs, swd_all tb hi, (List.mem_filter.1 hx).2]
  simp
end Go.Proofs.YtflhjbmoncbomaaGreatDoor
