/- Marking: what painting does, by what a marker holds. Conditions: none. -/
import Derived.Test.YtnobempbcdkoaaaGreatDoorMrw
namespace Go.Proofs.YtnobempbcdkoaaaGreatDoor
open Go.RowKit

variable {c : Cf} {S : HS} {rt : List Int} {col room a x : Int} {s : MaS} {pend pend' : Int → Prop}
/-- While a heap is marked, by what the marker holds. -/
def MkS (S : HS) (c : Cf) (rt : List Int) (col room : Int) (s : MaS) (pend : Int → Prop) : Prop := MarI S c rt col room s.K s.xs s.ov s.n s.al pend
/-- How much is to be done. -/
def MaS.ms (S : HS) (col : Int) (s : MaS) : Nat := whs S col s.K + s.xs.length
theorem pt_no (ho : S.obj a = false) : s.pt S col room a = s := by unfold MaS.pt; rw [ho]; rfl
theorem blk_again (hc : col = 0 ∨ col = 1) (ho : S.obj a = true) (hb : S.blk col s.K a = true) (x : Int) : S.blk col (putM s.K (S.s.ws.length + 1) a (decide (col = 1))) x = S.blk col s.K x := by
  rw [Bool.eq_iff_iff, blk_put hc ho]
  exact ⟨fun h => h.elim (fun e => e ▸ hb) id, .inr⟩
theorem MkS.pt (h : MkS S c rt col room s pend) (hc : col = 0 ∨ col = 1) (hr : S.obj a = true → Rch S c rt a) : MkS S c rt col room (s.pt S col room a) pend := by
  cases ho : S.obj a with
  | false => rw [pt_no ho]; exact h
  | true =>
    unfold MaS.pt
    rw [if_pos ho]
    cases hb : S.blk col s.K a with
    | true =>
      rw [if_pos rfl]
      exact MarI.again h (blk_again hc ho hb)
    | false =>
      rw [if_neg (by simp)]
      exact MarI.fresh h hc (hr ho) hb
theorem pt_al : (s.pt S col room a).al = s.al := by
  unfold MaS.pt
  split
  · split <;> rfl
  · rfl
theorem pt_up (hc : col = 0 ∨ col = 1) (h : S.blk col s.K x = true) : S.blk col (s.pt S col room a).K x = true := by
  cases ho : S.obj a with
  | false => rw [pt_no ho]; exact h
  | true =>
    have hk : (s.pt S col room a).K = putM s.K (S.s.ws.length + 1) a (decide (col = 1)) := by
      unfold MaS.pt
      rw [if_pos ho]
      split <;> rfl
    rw [hk, blk_put hc ho]
    exact .inr h
theorem pt_in (hc : col = 0 ∨ col = 1) (ho : S.obj a = true) : S.blk col (s.pt S col room a).K a = true := by
  have hk : (s.pt S col room a).K = putM s.K (S.s.ws.length + 1) a (decide (col = 1)) := by
    unfold MaS.pt
    rw [if_pos ho]
    split <;> rfl
  rw [hk, blk_put hc ho]
  exact .inl rfl
theorem pt_ms (hc : col = 0 ∨ col = 1) : (s.pt S col room a).ms S col ≤ s.ms S col := by
  cases ho : S.obj a with
  | false => rw [pt_no ho]; exact Nat.le_refl _
  | true =>
    unfold MaS.pt
    rw [if_pos ho]
    cases hb : S.blk col s.K a with
    | true =>
      rw [if_pos rfl]
      have e : S.blk col (putM s.K (S.s.ws.length + 1) a (decide (col = 1))) = S.blk col s.K := funext (blk_again hc ho hb)
      unfold MaS.ms whs
      show (S.objs.filter fun x => !S.blk col (putM s.K (S.s.ws.length + 1) a (decide (col = 1))) x).length + s.xs.length ≤ _
      rw [e]
      exact Nat.le_refl _
    | false =>
      rw [if_neg (by simp)]
      have h1 := cnt_put hc ho hb
      have h2 := @whs_sum S col s.K
      have h3 := @whs_sum S col (putM s.K (S.s.ws.length + 1) a (decide (col = 1)))
      unfold MaS.ms
      show whs S col (putM s.K (S.s.ws.length + 1) a (decide (col = 1))) + (if (s.xs.length : Int) < room then s.xs ++ [a] else s.xs).length ≤ _
      split
      · rw [List.length_append, List.length_singleton]; omega
      · omega
theorem MkS.n_le (h : MkS S c rt col room s pend) : s.n ≤ S.objs.length := by
  have := h.ct
  have h2 := List.length_filter_le (S.blk col s.K) S.objs
  omega
/-- What is kept, and grows. -/
structure MaG (S : HS) (col : Int) (s s' : MaS) : Prop where
  up : ∀ x, S.blk col s.K x = true → S.blk col s'.K x = true
  ms : s'.ms S col ≤ s.ms S col
  al : s'.al = s.al
theorem MaG.refl : MaG S col s s := ⟨fun _ h => h, Nat.le_refl _, rfl⟩
theorem MaG.trans {s' s'' : MaS} (h : MaG S col s s') (g : MaG S col s' s'') : MaG S col s s'' := ⟨fun x hx => g.up x (h.up x hx), Nat.le_trans g.ms h.ms, g.al.trans h.al⟩
theorem MaG.pt (hc : col = 0 ∨ col = 1) : MaG S col s (s.pt S col room a) := ⟨fun _ h => pt_up hc h, pt_ms hc, pt_al⟩
end Go.Proofs.YtnobempbcdkoaaaGreatDoor
