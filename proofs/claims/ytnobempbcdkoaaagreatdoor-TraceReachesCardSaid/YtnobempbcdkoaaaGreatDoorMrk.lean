/- Marking: the plain law. Conditions: none. -/
import Derived.Test.YtnobempbcdkoaaaGreatDoorTrc
namespace Go.Proofs.YtnobempbcdkoaaaGreatDoor
open Go.RowKit

variable {S : HS} {c : Cf} {H : Nat → List Nat} {rt : List Int} {col room : Int} {K K' : Nat → Bool} {x y a : Int}
/-- An object of the color. -/
def HS.blk (S : HS) (col : Int) (K : Nat → Bool) (x : Int) : Bool := S.obj x && decide (({ S with K := K } : HS).colV x = col)
theorem blk_obj (h : S.blk col K x = true) : S.obj x = true := by unfold HS.blk at h; rw [Bool.and_eq_true] at h; exact h.1
theorem obj_nat (h : S.obj a = true) : ∃ n : Nat, a = n ∧ n < S.s.ws.length + 1 := by
  unfold HS.obj hasB at h
  rw [Bool.and_eq_true] at h
  exact may_nat h.1
theorem colB_put (ho : S.obj a = true) (b : Bool) (hx : S.obj x = true) : ({ S with K := putM K (S.s.ws.length + 1) a b } : HS).colB x = if x = a then b else ({ S with K := K } : HS).colB x := by
  obtain ⟨n, rfl, hn⟩ := obj_nat ho
  obtain ⟨m, rfl, hm⟩ := obj_nat hx
  have may : ∀ k : Nat, k < S.s.ws.length + 1 → mayB (S.s.ws.length + 1) (k : Int) = true := fun k hk => by
    unfold mayB
    rw [decide_eq_true (show (0 : Int) ≤ (k : Int) by omega), decide_eq_true (show (k : Int) < ((S.s.ws.length + 1 : Nat) : Int) by omega)]
    rfl
  show hasB (putM K (S.s.ws.length + 1) n b) (S.s.ws.length + 1) m = if _ then _ else hasB K (S.s.ws.length + 1) m
  unfold hasB putM
  rw [may m hm, may n hn, Int.toNat_natCast, Int.toNat_natCast]
  by_cases h : m = n
  · rw [if_pos ⟨rfl, h⟩, if_pos (by omega)]
    rfl
  · rw [if_neg (fun e => h e.2), if_neg (by omega)]
theorem colV_put (hc : col = 0 ∨ col = 1) (ho : S.obj a = true) (hx : S.obj x = true) : ({ S with K := putM K (S.s.ws.length + 1) a (decide (col = 1)) } : HS).colV x = if x = a then col else ({ S with K := K } : HS).colV x := by
  have h1 := colB_put (K := K) ho (decide (col = 1)) hx
  have hv : ∀ K, ({ S with K := K } : HS).colV x = if ({ S with K := K } : HS).colB x = true then 1 else 0 := fun K => by
    unfold HS.colV
    have e : ({ S with K := K } : HS).obj x = true := hx
    rw [e]
    by_cases hh : ({ S with K := K } : HS).colB x = true
    · rw [if_pos ⟨rfl, hh⟩, if_pos hh]
    · rw [if_neg (fun z => hh z.2), if_neg hh]
  rw [hv, hv, h1]
  by_cases h : x = a
  · rw [if_pos h, if_pos h]
    rcases hc with rfl | rfl
    · rfl
    · rfl
  · rw [if_neg h, if_neg h]
theorem blk_put (hc : col = 0 ∨ col = 1) (ho : S.obj a = true) : S.blk col (putM K (S.s.ws.length + 1) a (decide (col = 1))) x = true ↔ x = a ∨ S.blk col K x = true := by
  unfold HS.blk
  by_cases hx : S.obj x = true
  · rw [colV_put hc ho hx, hx]
    by_cases h : x = a
    · rw [if_pos h]; simp [h]
    · rw [if_neg h]; simp [h]
  · rw [Bool.not_eq_true] at hx
    rw [hx]
    constructor
    · intro h; simp at h
    · rintro (rfl | h)
      · rw [ho] at hx; cases hx
      · simp at h
/-- All get the other color. -/
theorem blk_off (hc : col = 0 ∨ col = 1) (ho : S.obj a = true) : S.blk col (putM K (S.s.ws.length + 1) a (decide (1 - col = 1))) x = true ↔ x ≠ a ∧ S.blk col K x = true := by
  have hc' : 1 - col = 0 ∨ 1 - col = 1 := by omega
  unfold HS.blk
  by_cases hx : S.obj x = true
  · rw [colV_put hc' ho hx, hx]
    by_cases h : x = a
    · rw [if_pos h]
      have : ¬ (1 - col = col) := by omega
      simp [h, this]
    · rw [if_neg h]; simp [h]
  · rw [Bool.not_eq_true] at hx
    rw [hx]
    simp
/-- While a heap is marked. -/
structure MarI (S : HS) (c : Cf) (rt : List Int) (col room : Int) (K : Nat → Bool) (xs : List Int) (ov : Bool) (n al : Nat) (pend : Int → Prop) : Prop where
  sr : ∀ x, S.blk col K x = true → Rch S c rt x
  st : ∀ x ∈ xs, S.blk col K x = true
  nd : xs.Nodup
  cl : ov = false → ∀ x, S.blk col K x = true → (∀ y ∈ edT S c x, S.obj y = true → S.blk col K y = true) ∨ x ∈ xs ∨ pend x
  ct : n = (S.objs.filter (S.blk col K)).length
  al : al + ov.toNat ≤ n
  rm : (S.objs.length : Int) ≤ room → ov = false
/-- How many aren't. -/
def whs (S : HS) (col : Int) (K : Nat → Bool) : Nat := (S.objs.filter fun x => !S.blk col K x).length
theorem half_len {α : Type} (l : List α) (p : α → Bool) : (l.filter p).length + (l.filter fun x => !p x).length = l.length := by
  induction l with
  | nil => rfl
  | cons a l ih =>
    simp only [List.filter_cons]
    cases p a <;> simp <;> omega
theorem whs_sum : (S.objs.filter (S.blk col K)).length + whs S col K = S.objs.length := half_len _ _
variable {xs : List Int} {ov : Bool} {n al : Nat} {pend pend' : Int → Prop}
theorem cnt_put (hc : col = 0 ∨ col = 1) (ho : S.obj a = true) (hn : S.blk col K a = false) : (S.objs.filter (S.blk col (putM K (S.s.ws.length + 1) a (decide (col = 1))))).length = (S.objs.filter (S.blk col K)).length + 1 := by
  have key : ∀ l : List Int, l.Nodup → (∀ x ∈ l, S.obj x = true) → (l.filter (S.blk col (putM K (S.s.ws.length + 1) a (decide (col = 1))))).length = (l.filter (S.blk col K)).length + (if a ∈ l then 1 else 0) := by
    intro l
    induction l with
    | nil => intro _ _; rfl
    | cons z l ih =>
      intro hd ho2
      obtain ⟨h1, h2⟩ := List.nodup_cons.1 hd
      have ih := ih h2 (fun x hx => ho2 x (List.mem_cons_of_mem _ hx))
      rw [List.filter_cons, List.filter_cons]
      by_cases hz : z = a
      · subst hz
        rw [(blk_put hc ho).2 (.inl rfl), hn, if_pos rfl, if_neg (by simp), List.length_cons, ih, if_neg h1, if_pos (List.mem_cons_self ..)]
      · have e : S.blk col (putM K (S.s.ws.length + 1) a (decide (col = 1))) z = S.blk col K z := by
          rw [Bool.eq_iff_iff, blk_put hc ho]
          simp [hz]
        rw [e]
        have hm : (a ∈ z :: l) ↔ a ∈ l := by simp [show ¬ a = z from fun e => hz e.symm]
        cases S.blk col K z
        · rw [if_neg (by simp), if_neg (by simp), ih]
          by_cases hl : a ∈ l
          · rw [if_pos hl, if_pos (hm.2 hl)]
          · rw [if_neg hl, if_neg (fun x => hl (hm.1 x))]
        · rw [if_pos rfl, if_pos rfl, List.length_cons, List.length_cons, ih]
          by_cases hl : a ∈ l
          · rw [if_pos hl, if_pos (hm.2 hl)]
          · rw [if_neg hl, if_neg (fun x => hl (hm.1 x))]
  have hnd : S.objs.Nodup := objs_asc.imp fun h e => by omega
  rw [key S.objs hnd (fun x hx => mem_objs.1 hx), if_pos (mem_objs.2 ho)]
theorem len_objs_of {l : List Int} (hd : l.Nodup) (h : ∀ x ∈ l, S.obj x = true) : l.length ≤ S.objs.length := sub_len l S.objs hd (fun x hx => mem_objs.2 (h x hx))
/-- One is painted anew: it is pushed, or refused. -/
theorem MarI.fresh (h : MarI S c rt col room K xs ov n al pend) (hc : col = 0 ∨ col = 1) (hr : Rch S c rt a) (hn : S.blk col K a = false) :
    MarI S c rt col room (putM K (S.s.ws.length + 1) a (decide (col = 1))) (if (xs.length : Int) < room then xs ++ [a] else xs) (if (xs.length : Int) < room then ov else true) (n + 1) al pend := by
  have ho := hr.obj
  have up : ∀ {x}, S.blk col K x = true → S.blk col (putM K (S.s.ws.length + 1) a (decide (col = 1))) x = true := fun hx => (blk_put hc ho).2 (.inr hx)
  have na : a ∉ xs := fun hm => by rw [h.st a hm] at hn; cases hn
  have hct : n + 1 = (S.objs.filter (S.blk col (putM K (S.s.ws.length + 1) a (decide (col = 1))))).length := by rw [cnt_put hc ho hn, ← h.ct]
  by_cases hl : (xs.length : Int) < room
  · rw [if_pos hl, if_pos hl]
    refine ⟨fun x hx => ?_, fun x hx => ?_, ?_, fun e x hx => ?_, hct, by have := h.al; omega, h.rm⟩
    · rcases (blk_put hc ho).1 hx with rfl | hx
      · exact hr
      · exact h.sr x hx
    · rcases List.mem_append.1 hx with hx | hx
      · exact up (h.st x hx)
      · rw [List.mem_singleton.1 hx]; exact (blk_put hc ho).2 (.inl rfl)
    · rw [List.nodup_append]
      exact ⟨h.nd, by simp, fun x hx y hy e => by rw [List.mem_singleton.1 hy] at e; exact na (e ▸ hx)⟩
    · rcases (blk_put hc ho).1 hx with rfl | hx
      · exact .inr (.inl (List.mem_append_right _ (List.mem_singleton.2 rfl)))
      · rcases h.cl e x hx with g | g | g
        · exact .inl fun y hy hoy => up (g y hy hoy)
        · exact .inr (.inl (List.mem_append_left _ g))
        · exact .inr (.inr g)
  · rw [if_neg hl, if_neg hl]
    refine ⟨fun x hx => ?_, fun x hx => up (h.st x hx), h.nd, fun e => (by cases e), hct, ?_, fun hm => ?_⟩
    · rcases (blk_put hc ho).1 hx with rfl | hx
      · exact hr
      · exact h.sr x hx
    · have h1 := h.al
      cases ov with
      | true => simp only [Bool.toNat_true] at h1 ⊢; omega
      | false => simp only [Bool.toNat_true, Bool.toNat_false] at h1 ⊢; omega
    · exfalso
      have h2 := len_objs_of (S := S) (l := a :: xs) (List.nodup_cons.2 ⟨na, h.nd⟩) (fun x hx => by
        rcases List.mem_cons.1 hx with rfl | hx
        · exact ho
        · exact blk_obj (h.st x hx))
      simp only [List.length_cons] at h2
      omega
/-- One is painted that has the color. -/
theorem MarI.again (h : MarI S c rt col room K xs ov n al pend) (hk : ∀ x, S.blk col K' x = S.blk col K x) : MarI S c rt col room K' xs ov n al pend :=
  have e : S.blk col K' = S.blk col K := funext hk
  ⟨fun x hx => h.sr x (e ▸ hx), fun x hx => e ▸ h.st x hx, h.nd, fun e' x hx => (by rw [e] at hx ⊢; exact h.cl e' x hx), e ▸ h.ct, h.al, h.rm⟩
/-- One is taken off the stack: it is to be looked at. -/
theorem MarI.pop (h : MarI S c rt col room K (xs ++ [a]) ov n al pend) : MarI S c rt col room K xs ov n al (fun x => x = a ∨ pend x) := by
  refine ⟨h.sr, fun x hx => h.st x (List.mem_append_left _ hx), (List.nodup_append.1 h.nd).1, fun e x hx => ?_, h.ct, h.al, h.rm⟩
  rcases h.cl e x hx with g | g | g
  · exact .inl g
  · rcases List.mem_append.1 g with g | g
    · exact .inr (.inl g)
    · exact .inr (.inr (.inl (List.mem_singleton.1 g)))
  · exact .inr (.inr (.inr g))
/-- One was looked at. -/
theorem MarI.looked (h : MarI S c rt col room K xs ov n al pend) (hp : ∀ x, pend x → x = a ∨ pend' x) (ha : S.blk col K a = true → ∀ y ∈ edT S c a, S.obj y = true → S.blk col K y = true) : MarI S c rt col room K xs ov n al pend' := by
  refine ⟨h.sr, h.st, h.nd, fun e x hx => ?_, h.ct, h.al, h.rm⟩
  rcases h.cl e x hx with g | g | g
  · exact .inl g
  · exact .inr (.inl g)
  · rcases hp x g with rfl | g
    · exact .inl (ha hx)
    · exact .inr (.inr g)
theorem MarI.weak (h : MarI S c rt col room K xs ov n al pend) (hp : ∀ x, pend x → pend' x) : MarI S c rt col room K xs ov n al pend' :=
  ⟨h.sr, h.st, h.nd, fun e x hx => (h.cl e x hx).imp_right (fun g => g.imp_right (hp x)), h.ct, h.al, h.rm⟩
/-- All are gone through anew. -/
theorem MarI.pass (h : MarI S c rt col room K [] true n al pend) : MarI S c rt col room K [] false n (al + 1) (fun x => S.obj x = true) :=
  ⟨h.sr, h.st, h.nd, fun _ x hx => .inr (.inr (blk_obj hx)), h.ct, by have := h.al; simp only [Bool.toNat_true, Bool.toNat_false] at this ⊢; omega, fun _ => rfl⟩
/-- At the end just what is reached has the color. -/
theorem MarI.done (h : MarI S c rt col room K [] false n al (fun _ => False)) (hr : ∀ x ∈ rt, S.obj x = true → S.blk col K x = true) : S.blk col K x = true ↔ Rch S c rt x := by
  refine ⟨h.sr x, fun hx => ?_⟩
  induction hx with
  | root h1 h2 => exact hr _ h1 h2
  | step _ h2 h3 ih =>
    rcases h.cl rfl _ ih with g | g | g
    · exact g _ h2 h3
    · cases g
    · exact g.elim
end Go.Proofs.YtnobempbcdkoaaaGreatDoor
