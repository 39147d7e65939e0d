/- Slices of ints that are never written again: what they hold. Conditions: none beyond what each says. -/
import Derived.Test.YtflhjbmoncbomaaGreatDoorRep
namespace Go.Proofs.YtflhjbmoncbomaaGreatDoor
open Go.RowKit

/-- A slice that holds so many ints; its row stays as it is. -/
def SlAt (w : World) (v : Value) (xs : List Int) : Prop :=
  (v = .slice none 0 0 ∧ xs = []) ∨ ∃ g o cap cur, v = .slice (some ⟨g, o, none⟩) xs.length cap ∧ xs.length ≤ cap ∧ w.heap[g]? = some (.cells cur 3) ∧ ∀ j, j < xs.length → cur[o + j]? = some (.int .i64 (xs.getD j 0))
variable {w w' : World} {v : Value} {xs : List Int} {S : Nat → Prop}
theorem SlAt.nil (w : World) : SlAt w (.slice none 0 0) [] := .inl ⟨rfl, rfl⟩
theorem SlAt.touch (h : SlAt w v xs) (ht : Touch S w w') (hs : ∀ b, v.ownBlock = some b → ¬ S b) : SlAt w' v xs := by
  rcases h with h | ⟨g, o, cap, cur, rfl, h1, h2, h3⟩
  · exact .inl h
  · exact .inr ⟨g, o, cap, cur, rfl, h1, blk_touch h2 ht (hs g rfl), h3⟩
theorem SlAt.old (h : SlAt w v xs) (ht : Touch nob w w') : SlAt w' v xs := h.touch ht (fun _ _ x => x)
theorem SlAt.ne (h : SlAt w v xs) {p : Nat} {cs : Array Value} {t : TypeId} (hp : w.heap[p]? = some (.cells cs t)) (ht : t ≠ 3) : ∀ b, v.ownBlock = some b → b ≠ p := by
  rintro b hb rfl
  rcases h with ⟨rfl, _⟩ | ⟨g, o, cap, cur, rfl, h1, h2, h3⟩
  · cases hb
  · cases hb
    have := h2.symm.trans hp
    simp at this
    exact ht this.2.symm
theorem SlAt.lt (h : SlAt w v xs) : ∀ b, v.ownBlock = some b → b < w.heap.size := by
  rintro b hb
  rcases h with ⟨rfl, _⟩ | ⟨g, o, cap, cur, rfl, h1, h2, h3⟩
  · cases hb
  · cases hb; exact blk_lt h2
theorem touch_set (w : World) (p o : Nat) (u : Value) : Touch (fun b => b = p) w (w.setCell ⟨p, o, none⟩ u) := Touch.setCell (S := fun b => b = p) (Touch.refl _ _) (.inl rfl) _
theorem SlAt.set (h : SlAt w v xs) {p : Nat} {cs : Array Value} {t : TypeId} (hp : w.heap[p]? = some (.cells cs t)) (ht : t ≠ 3) (o : Nat) (u : Value) : SlAt (w.setCell ⟨p, o, none⟩ u) v xs :=
  h.touch (touch_set w p o u) (h.ne hp ht)
theorem SlAt.len (h : SlAt w v xs) : ∃ ao cap, v = .slice ao xs.length cap ∧ xs.length ≤ cap := by
  rcases h with ⟨rfl, rfl⟩ | ⟨g, o, cap, cur, rfl, h1, h2, h3⟩
  · exact ⟨_, _, rfl, Nat.le_refl _⟩
  · exact ⟨_, _, rfl, h1⟩
theorem SlAt.cell {g o n cap : Nat} (h : SlAt w (.slice (some ⟨g, o, none⟩) n cap) xs) {j : Nat} (hj : j < xs.length) : w.cell? ⟨g, o + j, none⟩ = some (.int .i64 (xs.getD j 0)) := by
  rcases h with ⟨h, _⟩ | ⟨g, o, cap, cur, h, h1, h2, h3⟩
  · cases h
  · cases h
    simp only [World.cell?, h2]
    exact h3 j hj
theorem SlAt.of_owns {base n : Nat} (h : w.ownsRow base 3 1 v n (xs.map (.int .i64))) : SlAt w v xs := by
  obtain ⟨h1, h2⟩ := id h
  rcases h2 with ⟨rfl, rfl⟩ | ⟨g, cap, cur, rfl, hg, hh, hn, _, hc, ht⟩
  · exact .inl ⟨rfl, by simpa using h1⟩
  · have hl : xs.length = n := by simpa using h1
    refine .inr ⟨g, 0, cap, cur, by rw [hl], by omega, hh, fun j hj => ?_⟩
    have h5 : (cur.toList.take (n * 1))[j]? = some (Value.int .i64 (xs.getD j 0)) := by
      rw [ht, List.getElem?_map, List.getElem?_eq_getElem hj]; simp [List.getD_eq_getElem?_getD, hj]
    rw [List.getElem?_take, if_pos (by omega)] at h5
    simpa using h5
theorem SlAt.ints (h : SlAt w v xs) : IntsIn w v xs := by
  rcases id h with ⟨rfl, rfl⟩ | ⟨g, o, cap, cur, rfl, h1, h2, h3⟩
  · exact ⟨none, 0, rfl, .inl rfl⟩
  · exact ⟨some ⟨g, o, none⟩, cap, rfl, .inr ⟨g, o, rfl, h1, fun j hj => h.cell hj⟩⟩
/-- What is left behind the first one. -/
theorem SlAt.tail {x : Int} {g o n cap : Nat} (h : SlAt w (.slice (some ⟨g, o, none⟩) n cap) (x :: xs)) {g' o' : Nat} (hg : g' = g) (ho : xs = [] ∨ o' = o + 1) : SlAt w (.slice (some ⟨g', o', none⟩) (n - 1) (cap - 1)) xs := by
  subst hg
  rcases h with ⟨h, _⟩ | ⟨g, o, cap, cur, h, h1, h2, h3⟩
  · cases h
  · cases h
    simp only [List.length_cons] at h1 h3 ⊢
    refine .inr ⟨_, o', cap - 1, cur, rfl, by omega, h2, fun j hj => ?_⟩
    rcases ho with rfl | rfl
    · simp at hj
    · have := h3 (j + 1) (by omega)
      rw [show o + 1 + j = o + (j + 1) by omega, this]
      simp [List.getD_eq_getElem?_getD]
/-- What is left ahead of the last one. -/
theorem SlAt.init {y : Int} {g o n cap : Nat} (h : SlAt w (.slice (some ⟨g, o, none⟩) n cap) (xs ++ [y])) {m : Nat} (hm : m = xs.length) : SlAt w (.slice (some ⟨g, o, none⟩) m cap) xs := by
  subst hm
  rcases h with ⟨h, _⟩ | ⟨g, o, cap, cur, h, h1, h2, h3⟩
  · cases h
  · cases h
    rw [List.length_append] at h1 h3
    simp only [List.length_cons, List.length_nil, Nat.zero_add] at h1 h3
    refine .inr ⟨_, o, cap, cur, rfl, by omega, h2, fun j hj => ?_⟩
    rw [h3 j (by omega)]
    simp [List.getD_eq_getElem?_getD, List.getElem?_append_left hj]
/-- The block of v' is that of v, or is new. -/
def SubB (w : World) (v' v : Value) : Prop := ∀ b, v'.ownBlock = some b → v.ownBlock = some b ∨ w.heap.size ≤ b
theorem subB_nil (w : World) (v : Value) : SubB w (.slice none 0 0) v := fun _ h => by cases h
theorem subB_owns {w w' : World} {base n : Nat} {e : TypeId} {v v0 : Value} {xs : List Value} (h : w'.ownsRow base e 1 v n xs) (hb : w.heap.size ≤ base) : SubB w v v0 := fun b hv => .inr (Nat.le_trans hb (h.lt b hv).1)
end Go.Proofs.YtflhjbmoncbomaaGreatDoor
