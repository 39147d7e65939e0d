/- append(s, t...), whatever t holds: one law. Conditions: none. -/
import Derived.Test.YtflhjbmoncbomaaGreatDoorHpC
import Derived.Laws.AppendOwnNone
import Derived.Maps.AppendAt
namespace Go.Proofs.YtflhjbmoncbomaaGreatDoor
open Go.RowKit

/-- A slice of ints: nil, or a row with its cells. -/
def Sx (w : World) (v : Value) (zs : List Int) : Prop :=
  (v = .slice none 0 0 ∧ zs = []) ∨ ∃ g o cap, v = .slice (some ⟨g, o, none⟩) zs.length cap ∧ ∀ j u, (zs.map (Value.int .i64))[j]? = some u → w.cell? ((⟨g, o, none⟩ : Addr).add j) = some u
theorem sx_of_ints {w : World} {v : Value} {zs : List Int} (h : IntsIn w v zs) (h0 : zs ≠ []) : Sx w v zs := by
  obtain ⟨ao, cap, rfl, h | ⟨b, o, rfl, hc, h⟩⟩ := h
  · exact absurd h h0
  · refine .inr ⟨b, o, cap, rfl, fun j u hj => ?_⟩
    obtain ⟨hl, rfl⟩ := List.getElem?_eq_some_iff.1 hj
    simp only [List.length_map] at hl
    rw [Addr.add_lit]
    simpa [List.getD_eq_getElem?_getD, hl] using h j hl
theorem Ow.sx {w : World} {B : Nat} {v : Value} {zs : List Int} (h : Ow w B v zs) : Sx w v zs := by
  rcases h.shape with h1 | ⟨g, cap, e⟩
  · exact .inl h1
  · by_cases h0 : zs = []
    · subst h0
      exact .inr ⟨g, 0, cap, e, fun j u hj => by simp at hj⟩
    · exact sx_of_ints h.ints h0
theorem Sx.touch {w w' : World} {v : Value} {zs : List Int} {T : Nat → Prop} (h : Sx w v zs) (ht : Touch T w w') (hn : ∀ g, v.ownBlock = some g → ¬ T g) : Sx w' v zs := by
  rcases h with h | ⟨g, o, cap, rfl, h⟩
  · exact .inl h
  · refine .inr ⟨g, o, cap, rfl, fun j u hj => ?_⟩
    have h1 := h j u hj
    rw [Addr.add_lit] at h1 ⊢
    exact (ht.cell (cell_lt h1) (hn g rfl)).trans h1
theorem grown_refl (w : World) (row : Option Nat) : w.grownBy w row := ⟨rfl, rfl, rfl, Nat.le_refl _, fun _ _ _ => rfl⟩
theorem wpList_append_sx {w : World} {ops : Array Oper} {rest : List Oper} {o : Oper} {a : Act} {Q : Exit → Act → World → Prop} (hgd : o.guard = none) (s x : Operand)
    (ho : o.op = .call { callee := .builtin .append, args := #[s, x], argTypes := #[46, 46] })
    (base : Nat) (v v2 : Value) (xs zs : List Int) (hs : a.eval s = v) (hown : Ow w base v xs) (hx : a.eval x = v2) (hsx : Sx w v2 zs) (h63 : xs.length + zs.length ≤ 1048576) (hbase : base ≤ w.heap.size)
    (h : ∀ v' w', Ow w' base v' (xs ++ zs) → w.grownBy w' v.ownBlock → (v'.ownBlock = v.ownBlock ∨ v'.ownBlock = some w.heap.size) → wpList Tryz.prog ops Q rest (a.put o.dst v') w') :
    wpList Tryz.prog ops Q (o :: rest) a w := by
  obtain ⟨i0, hi, hz0, hz1, hz2⟩ := info_parts info_int2
  rcases hsx with ⟨rfl, rfl⟩ | ⟨g, of, cap, rfl, hc⟩
  · refine wpList_append_own_none hgd s x 46 ho base 3 i0 1 Tryz.underlying46 hi v xs.length _ hs hown hx ?_
    exact h v w (by rw [List.append_nil]; exact hown) (grown_refl w _) (.inl rfl)
  · refine wpList_append_own_at w hgd s x 46 ho base 3 i0 (.int .i64 0) 1 8 Tryz.underlying46 hi hz0 hz1 hz2 rfl (by decide) v xs.length _ hs hown ⟨g, of, none⟩ zs.length cap (zs.map (.int .i64)) hx (by simp) hc (ints_oneCell _ zs) (by unfold maxLen; omega) (by omega) hbase ?_
    intro v' w' h1 h2 _ h4
    refine h v' w' ?_ h2 h4
    show w'.ownsRow _ _ _ _ _ _
    rw [List.length_append, List.map_append]
    exact h1
end Go.Proofs.YtflhjbmoncbomaaGreatDoor
