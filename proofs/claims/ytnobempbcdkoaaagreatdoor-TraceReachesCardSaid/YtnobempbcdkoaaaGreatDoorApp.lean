/- append(s, t...), whatever t holds: one law. Conditions: none. slices.Clone of a slice of ints that came in, walked. Conditions: none beyond what it says. append(s, t...), t a slice that came in. Conditions: none. -/
import Derived.Test.YtnobempbcdkoaaaGreatDoorHpC
import Derived.Laws.AppendOwnNone
import Derived.Maps.AppendAt
namespace Go.Proofs.YtnobempbcdkoaaaGreatDoor
open Go.RowKit

/-- A slice of ints: nil, or a row with its cells. -/
def Sx (w : World) (v : Value) (zs : List Int) : Prop :=
  (v = .slice none 0 0 ∧ zs = []) ∨ ∃ g o cap, v = .slice (some ⟨g, o, none⟩) zs.length cap ∧ ∀ j u, (zs.map (Value.int .i64))[j]? = some u → w.cell? ((⟨g, o, none⟩ : Addr).add j) = some u
theorem sx_of_ints {w : World} {v : Value} {zs : List Int} (h : IntsIn w v zs) (h0 : zs ≠ []) : Sx w v zs := by
  obtain ⟨ao, cap, rfl, h | ⟨b, o, rfl, hc, h⟩⟩ := h
  · exact absurd h h0
  · refine .inr ⟨b, o, cap, rfl, fun j u hj => ?_⟩
    obtain ⟨hl, rfl⟩ := List.getElem?_eq_some_iff.1 hj
    simp only [List.length_map] at hl
    rw [Addr.add_lit]
    simpa [List.getD_eq_getElem?_getD, hl] using h j hl
theorem Ow.sx {w : World} {B : Nat} {v : Value} {zs : List Int} (h : Ow w B v zs) : Sx w v zs := by
  rcases h.shape with h1 | ⟨g, cap, e⟩
  · exact .inl h1
  · by_cases h0 : zs = []
    · subst h0
      exact .inr ⟨g, 0, cap, e, fun j u hj => by simp at hj⟩
    · exact sx_of_ints h.ints h0
theorem Sx.touch {w w' : World} {v : Value} {zs : List Int} {T : Nat → Prop} (h : Sx w v zs) (ht : Touch T w w') (hn : ∀ g, v.ownBlock = some g → ¬ T g) : Sx w' v zs := by
  rcases h with h | ⟨g, o, cap, rfl, h⟩
  · exact .inl h
  · refine .inr ⟨g, o, cap, rfl, fun j u hj => ?_⟩
    have h1 := h j u hj
    rw [Addr.add_lit] at h1 ⊢
    exact (ht.cell (cell_lt h1) (hn g rfl)).trans h1
theorem grown_refl (w : World) (row : Option Nat) : w.grownBy w row := ⟨rfl, rfl, rfl, Nat.le_refl _, fun _ _ _ => rfl⟩
theorem wpList_append_sx {w : World} {ops : Array Oper} {rest : List Oper} {o : Oper} {a : Act} {Q : Exit → Act → World → Prop} (hgd : o.guard = none) (s x : Operand)
    (ho : o.op = .call { callee := .builtin .append, args := #[s, x], argTypes := #[28, 28] })
    (base : Nat) (v v2 : Value) (xs zs : List Int) (hs : a.eval s = v) (hown : Ow w base v xs) (hx : a.eval x = v2) (hsx : Sx w v2 zs) (h63 : xs.length + zs.length ≤ 1048576) (hbase : base ≤ w.heap.size)
    (h : ∀ v' w', Ow w' base v' (xs ++ zs) → w.grownBy w' v.ownBlock → (v'.ownBlock = v.ownBlock ∨ v'.ownBlock = some w.heap.size) → wpList Tryz.prog ops Q rest (a.put o.dst v') w') :
    wpList Tryz.prog ops Q (o :: rest) a w := by
  obtain ⟨i0, hi, hz0, hz1, hz2⟩ := info_parts info_int2
  rcases hsx with ⟨rfl, rfl⟩ | ⟨g, of, cap, rfl, hc⟩
  · refine wpList_append_own_none hgd s x 28 ho base 3 i0 1 Tryz.underlying28 hi v xs.length _ hs hown hx ?_
    exact h v w (by rw [List.append_nil]; exact hown) (grown_refl w _) (.inl rfl)
  · refine wpList_append_own_at w hgd s x 28 ho base 3 i0 (.int .i64 0) 1 8 Tryz.underlying28 hi hz0 hz1 hz2 rfl (by decide) v xs.length _ hs hown ⟨g, of, none⟩ zs.length cap (zs.map (.int .i64)) hx (by simp) hc (ints_oneCell _ zs) (by unfold maxLen; omega) (by omega) hbase ?_
    intro v' w' h1 h2 _ h4
    refine h v' w' ?_ h2 h4
    show w'.ownsRow _ _ _ _ _ _
    rw [List.length_append, List.map_append]
    exact h1
end Go.Proofs.YtnobempbcdkoaaaGreatDoor
namespace Go.Proofs.YtnobempbcdkoaaaGreatDoor
open Go.RowKit
attribute [local go_sem] Oper.semAt_some

set_option maxRecDepth 20000 in
theorem clone_ints (v : Value) (xs : List Int) (w : World) (h : IntsIn w v xs) (hl : xs.length ≤ 1048576) :
    Calls Tryz.prog 98 #[v] w fun e w' => ∃ v', e = .returned v' ∧ Touch nob w w' ∧ Ow w' w.heap.size v' xs := by
  obtain ⟨ao, cap, rfl, hc⟩ := id h
  cases ao with
  | none =>
    have h0 : xs = [] := by
      rcases hc with h | ⟨b, o, e, _⟩
      · exact h
      · cases e
    subst h0
    clear hc h hl
    have hsn0 : ∀ (l c : Nat) (w : World), (binOp .eql 28 (.slice none l c) (.slice none 0 0)).run Tryz.prog w = .ok (.bool true) w := fun _ _ _ => by kernel_rfl
    go_enter Tryz.func98, Tryz.ntmps98
    go_wp2
    go_ret
    exact ⟨_, rfl, Touch.refl _ _, World.ownsRow_nil _ _ _ _⟩
  | some a =>
    have hsn : ∀ (a : Addr) (l c : Nat) (w : World), (binOp .eql 28 (.slice (some a) l c) (.slice none 0 0)).run Tryz.prog w = .ok (.bool false) w := fun _ _ _ _ => by kernel_rfl
    have HO : Hid (Ow (w.alloc (Obj.cells #[] 3)) w.heap.size (.slice (some ⟨w.heap.size, 0, none⟩) 0 0) []) := World.ownsRow_made (size := 1) w #[] 0 (Nat.le_refl _) (by unfold maxLen; omega) rfl
    by_cases h0 : xs = []
    · subst h0
      clear hc h hl
      go_enter Tryz.func98, Tryz.ntmps98
      go_wp2_with fail
      go_ret
      exact ⟨_, rfl, (Touch.refl nob w).alloc _, HO.out⟩
    · have HX := Lib.hid (sx_of_ints (h.old (Touch.alloc (Touch.refl nob w) (Obj.cells #[] 3))) h0)
      clear hc h
      go_enter Tryz.func98, Tryz.ntmps98
      go_wp2_with (at_builtin; refine wpList_append_sx rfl _ _ rfl w.heap.size _ _ [] xs rfl HO.out rfl HX.out (by rw [List.length_nil]; omega) (by simp) ?_; intro v4 w4 hown hgrow hat; have H4 := Lib.hid (And.intro hown hgrow); clear hown hgrow hat)
      go_ret
      exact ⟨_, rfl, Touch.grown ((Touch.refl nob w).alloc _) H4.out.2 (fun _ h => by cases h; exact .inr (Nat.le_refl _)), H4.out.1⟩
end Go.Proofs.YtnobempbcdkoaaaGreatDoor
namespace Go.Proofs.YtnobempbcdkoaaaGreatDoor
open Go.RowKit

/-- A slice of ints: nil, or one with its cells, wherever it begins. -/
def Sy (w : World) (v : Value) (zs : List Int) : Prop :=
  (v = .slice none 0 0 ∧ zs = []) ∨ ∃ a cap, v = .slice (some a) zs.length cap ∧ ∀ j u, (zs.map (Value.int .i64))[j]? = some u → w.cell? (a.add j) = some u
theorem Sy.old {w w' : World} {v : Value} {zs : List Int} (h : Sy w v zs) (ht : Touch nob w w') : Sy w' v zs := by
  rcases h with h | ⟨a, cap, rfl, h⟩
  · exact .inl h
  · refine .inr ⟨a, cap, rfl, fun j u hj => ?_⟩
    have h1 := h j u hj
    have hsp := World.cell?_spot h1
    obtain ⟨b, o, hb⟩ : ∃ b o, a.add j = ⟨b, o, none⟩ := by
      cases hh : a.add j with
      | mk b o s => rw [hh] at hsp; exact ⟨b, o, by cases hsp; rfl⟩
    rw [hb] at h1 ⊢
    exact (ht.cell (cell_lt h1) (fun x => x)).trans h1
theorem sy_of_slice {w : World} {v : Value} {rows : List (List Value)} (h : IsSlice w v [some .i64] rows) : ∃ zs : List Int, IntsIn w v zs ∧ Sy w v zs ∧ ∀ j, j < zs.length → (Lit.int .i64 (zs.getD j 0)).wf = true := by
  obtain ⟨xs, h1, hl, h2⟩ := ints_of_slice h
  refine ⟨xs, h1, ?_, h2⟩
  rcases h with ⟨rfl, rfl⟩ | ⟨a, cap, rfl, hc, _, hs, _⟩
  · exact .inl ⟨rfl, by simpa using hl⟩
  · refine .inr ⟨a, cap, by rw [hl], fun j u hj => ?_⟩
    obtain ⟨hlt, rfl⟩ := List.getElem?_eq_some_iff.1 hj
    simp only [List.length_map] at hlt
    obtain ⟨b, o, cap', e, _, hcell⟩ := h1.at (k := j) hlt
    injection e with e1 e2 e3
    cases e1
    rw [Addr.add_lit, hcell]
    simp [List.getD_eq_getElem?_getD, hlt]
theorem wpList_append_sy {w : World} {ops : Array Oper} {rest : List Oper} {o : Oper} {a : Act} {Q : Exit → Act → World → Prop} (hgd : o.guard = none) (s x : Operand)
    (ho : o.op = .call { callee := .builtin .append, args := #[s, x], argTypes := #[28, 28] })
    (base : Nat) (v v2 : Value) (xs zs : List Int) (hs : a.eval s = v) (hown : Ow w base v xs) (hx : a.eval x = v2) (hsx : Sy w v2 zs) (h63 : xs.length + zs.length ≤ 1048576) (hbase : base ≤ w.heap.size)
    (h : ∀ v' w', Ow w' base v' (xs ++ zs) → w.grownBy w' v.ownBlock → (v'.ownBlock = v.ownBlock ∨ v'.ownBlock = some w.heap.size) → wpList Tryz.prog ops Q rest (a.put o.dst v') w') :
    wpList Tryz.prog ops Q (o :: rest) a w := by
  obtain ⟨i0, hi, hz0, hz1, hz2⟩ := info_parts info_int2
  rcases hsx with ⟨rfl, rfl⟩ | ⟨b, cap, rfl, hc⟩
  · refine wpList_append_own_none hgd s x 28 ho base 3 i0 1 Tryz.underlying28 hi v xs.length _ hs hown hx ?_
    exact h v w (by rw [List.append_nil]; exact hown) (grown_refl w _) (.inl rfl)
  · refine wpList_append_own_at w hgd s x 28 ho base 3 i0 (.int .i64 0) 1 8 Tryz.underlying28 hi hz0 hz1 hz2 rfl (by decide) v xs.length _ hs hown b zs.length cap (zs.map (.int .i64)) hx (by simp) hc (ints_oneCell _ zs) (by unfold maxLen; omega) (by omega) hbase ?_
    intro v' w' h1 h2 _ h4
    refine h v' w' ?_ h2 h4
    show w'.ownsRow _ _ _ _ _ _
    rw [List.length_append, List.map_append]
    exact h1
end Go.Proofs.YtnobempbcdkoaaaGreatDoor
