/- What lies in memory, by footprints: general lemmas; no program in them. Conditions: none. -/
import Derived.Test.YtjbmpdibjfcafaaDoorTouch
import Derived.Test.YtjbmpdibjfcafaaDoorFrame
import Derived.WalkSpells
import Derived.WalkLawsBesides
namespace Go.Proofs.YtjbmpdibjfcafaaDoor
open Go.RowKit

theorem ret_i {k : IntKind} {a b : Int} (h : a = b) : Ending.returned (.int k a) = .returned (.int k b) := by rw [h]
theorem ret_b {a b : Bool} (h : a = b) : Ending.returned (.bool a) = .returned (.bool b) := by rw [h]
theorem blk_lt {w : World} {b : Nat} {o : Obj} (h : w.heap[b]? = some o) : b < w.heap.size := (Array.getElem?_eq_some_iff.1 h).1

/-- What is owned behind: what was owned ahead, or is new. -/
def Sub (w : World) (F' F : Nat → Prop) : Prop := ∀ b, F' b → F b ∨ w.heap.size ≤ b

/-- A row of cells, of one cell an element, of which the first ones are told. -/
def RowAt (w : World) (q : Nat) (e : TypeId) (cap : Nat) (xs : List Value) : Prop :=
  ∃ cur : Array Value, w.heap[q]? = some (.cells cur e) ∧ cur.size = cap ∧ xs.length ≤ cap ∧ cur.toList.take xs.length = xs
theorem RowAt.lt {w : World} {q : Nat} {e : TypeId} {cap : Nat} {xs : List Value} (h : RowAt w q e cap xs) : q < w.heap.size := by obtain ⟨_, h, _⟩ := h; exact blk_lt h
theorem RowAt.touch {S : Nat → Prop} {w w' : World} {q : Nat} {e : TypeId} {cap : Nat} {xs : List Value} (h : RowAt w q e cap xs) (ht : Touch S w w') (hs : ¬ S q) : RowAt w' q e cap xs := by
  obtain ⟨cur, h1, h2⟩ := h
  exact ⟨cur, (ht.block q (blk_lt h1) hs).trans h1, h2⟩
theorem RowAt.cell {w : World} {q : Nat} {e : TypeId} {cap : Nat} {xs : List Value} (h : RowAt w q e cap xs) {j : Nat} (hj : j < xs.length) : w.cell? ⟨q, j, none⟩ = some xs[j] := by
  obtain ⟨cur, h1, h2, h3, h4⟩ := h
  have h5 : cur.toList[j]? = some xs[j] := by
    have h6 : (cur.toList.take xs.length)[j]? = some xs[j] := by rw [h4]; exact List.getElem?_eq_getElem hj
    rwa [List.getElem?_take, if_pos hj] at h6
  simpa [World.cell?, h1] using h5
theorem RowAt.free {w : World} {q : Nat} {e : TypeId} {cap : Nat} {xs : List Value} (h : RowAt w q e cap xs) (j : Nat) : w.frozen? ⟨q, j, none⟩ = false := by
  obtain ⟨cur, h1, h2, h3, h4⟩ := h
  simp [World.frozen?, h1]
theorem RowAt.set {w : World} {q : Nat} {e : TypeId} {cap : Nat} {xs : List Value} (h : RowAt w q e cap xs) (j : Nat) (u : Value) : RowAt (w.setCell ⟨q, j, none⟩ u) q e cap (xs.set j u) := by
  obtain ⟨cur, h1, h2, h3, h4⟩ := h
  refine ⟨cur.setIfInBounds j u, set_cells j u h1, by simpa using h2, by simpa using h3, ?_⟩
  rw [Array.toList_setIfInBounds, List.length_set, List.take_set, h4]
theorem RowAt.other {w : World} {q k : Nat} {e : TypeId} {cap : Nat} {xs : List Value} (h : RowAt w q e cap xs) (hk : q ≠ k) (o : Nat) (u : Value) : RowAt (w.setCell ⟨k, o, none⟩ u) q e cap xs := by
  obtain ⟨cur, h1, h2⟩ := h
  exact ⟨cur, (set_other u hk).trans h1, h2⟩
/-- What the laws on make and append tell. -/
theorem RowAt.of_owns {w : World} {base q n cap : Nat} {e : TypeId} {xs : List Value} (h : w.ownsRow base e 1 (.slice (some ⟨q, 0, none⟩) n cap) n xs) : RowAt w q e cap xs ∧ xs.length = n ∧ cap ≤ maxLen := by
  obtain ⟨h1, h2⟩ := h
  rcases h2 with ⟨h2, _⟩ | ⟨g, cap', cur, hv, hg, hh, hn, hc, hs, ht⟩
  · cases h2
  · cases hv
    have hl : xs.length = n := by omega
    exact ⟨⟨cur, hh, by omega, by omega, by rw [hl]; simpa using ht⟩, hl, hc⟩
theorem RowAt.of_owns_some {w : World} {base n : Nat} {v : Value} {e : TypeId} {xs : List Value} (h : w.ownsRow base e 1 v n xs) (hn : 0 < n) : ∃ g cap, v = .slice (some ⟨g, 0, none⟩) n cap ∧ base ≤ g ∧ RowAt w g e cap xs ∧ xs.length = n ∧ cap ≤ maxLen := by
  have h' := h
  obtain ⟨h1, h2⟩ := h'
  rcases h2 with ⟨_, h2⟩ | ⟨g, cap', cur, rfl, hg, hh, hn', hc, hs, ht⟩
  · omega
  · exact ⟨g, cap', rfl, hg, RowAt.of_owns h⟩
theorem RowAt.owns {w : World} {q n cap : Nat} {e : TypeId} {xs : List Value} (h : RowAt w q e cap xs) (hl : xs.length = n) (hc : cap ≤ maxLen) : w.ownsRow 0 e 1 (.slice (some ⟨q, 0, none⟩) n cap) n xs := by
  obtain ⟨cur, h1, h2, h3, h4⟩ := h
  exact ⟨by omega, .inr ⟨q, cap, cur, rfl, Nat.zero_le _, h1, by omega, hc, by omega, by subst hl; simpa using h4⟩⟩
theorem RowAt.int' {w : World} {q : Nat} {e : TypeId} {cap n : Nat} {k : IntKind} {xs : List Int} {y : Int} (h : RowAt w q e cap ((xs ++ [y]).map (.int k))) {j : Nat} (_ : (xs ++ [y]).length = n + 1) (hj : xs.length = j) : w.cell? ⟨q, j, none⟩ = some (.int k y) := by
  rw [h.cell (j := j) (by simp; omega)]
  subst hj
  simp
theorem box1 {w : World} {b : Nat} {v0 : Value} {t : TypeId} (h : w.heap[b]? = some (.cells #[v0] t)) : w.cell? ⟨b, 0, none⟩ = some v0 ∧ w.frozen? ⟨b, 0, none⟩ = false := by
  simp [World.cell?, World.frozen?, h]
theorem box2 {w : World} {b : Nat} {v0 v1 : Value} {t : TypeId} (h : w.heap[b]? = some (.cells #[v0, v1] t)) :
    w.cell? ⟨b, 0, none⟩ = some v0 ∧ w.cell? ⟨b, 1, none⟩ = some v1 ∧ w.frozen? ⟨b, 0, none⟩ = false ∧ w.frozen? ⟨b, 1, none⟩ = false := by
  simp [World.cell?, World.frozen?, h]
theorem box3 {w : World} {b : Nat} {v0 v1 v2 : Value} {t : TypeId} (h : w.heap[b]? = some (.cells #[v0, v1, v2] t)) :
    w.cell? ⟨b, 0, none⟩ = some v0 ∧ w.cell? ⟨b, 1, none⟩ = some v1 ∧ w.cell? ⟨b, 2, none⟩ = some v2 ∧ w.frozen? ⟨b, 0, none⟩ = false ∧ w.frozen? ⟨b, 1, none⟩ = false ∧ w.frozen? ⟨b, 2, none⟩ = false := by
  simp [World.cell?, World.frozen?, h]
theorem blk_touch {S : Nat → Prop} {w w' : World} {b : Nat} {o : Obj} (h : w.heap[b]? = some o) (ht : Touch S w w') (hs : ¬ S b) : w'.heap[b]? = some o := (ht.block b (blk_lt h) hs).trans h
theorem blk_set {w : World} {b : Nat} {cs : Array Value} {t : TypeId} {fr : Nat × Nat} (h : w.heap[b]? = some (.cells cs t fr)) {o : Nat} {u : Value} {cs' : Array Value} (e : cs.setIfInBounds o u = cs') : (w.setCell ⟨b, o, none⟩ u).heap[b]? = some (.cells cs' t fr) := by rw [← e]; exact set_cells o u h
theorem wrap64_in {n : Int} (h : -9223372036854775808 ≤ n) (h' : n ≤ 9223372036854775807) : wrap64 n = n := by
  unfold wrap64; omega

/-- A slice of ints that came in: what it holds. -/
def IntsIn (w : World) (v : Value) (xs : List Int) : Prop :=
  ∃ ao cap, v = .slice ao xs.length cap ∧ (xs = [] ∨ ∃ b o, ao = some ⟨b, o, none⟩ ∧ xs.length ≤ cap ∧ ∀ j, j < xs.length → w.cell? ⟨b, o + j, none⟩ = some (.int .i64 (xs.getD j 0)))
theorem cell_lt {w : World} {b o : Nat} {v : Value} (h : w.cell? ⟨b, o, none⟩ = some v) : b < w.heap.size := by
  unfold World.cell? at h
  split at h
  · rename_i hb; exact blk_lt hb
  · cases h
theorem IntsIn.touch {S : Nat → Prop} {w w' : World} {v : Value} {xs : List Int} (h : IntsIn w v xs) (ht : Touch S w w') (hs : ∀ b, v.ownBlock = some b → ¬ S b) : IntsIn w' v xs := by
  obtain ⟨ao, cap, rfl, h⟩ := h
  refine ⟨ao, cap, rfl, ?_⟩
  rcases h with h | ⟨b, o, rfl, hc, h⟩
  · exact .inl h
  · refine .inr ⟨b, o, rfl, hc, fun j hj => ?_⟩
    have h1 := h j hj
    exact (ht.cell (cell_lt h1) (hs b rfl)).trans h1
/-- A slice of flat rows that came in. -/
def RowsIn (w : World) (v : Value) (l : List FK) (n : Nat) : Prop :=
  ∃ ao cap, v = .slice ao n cap ∧ (n = 0 ∨ ∃ b o, ao = some ⟨b, o, none⟩ ∧ n ≤ cap ∧ cap ≤ maxLen ∧ ∀ k, k < n → ∃ r, Fits l r ∧ ∀ j, j < l.length → w.cell? ⟨b, o + (k * l.length + j), none⟩ = r[j]?)
theorem rows_of_slice {w : World} {v : Value} {l : List FK} {rows : List (List Value)} (h : IsSlice w v l rows) (hl : l ≠ []) : ∃ n, RowsIn w v l n ∧ n = rows.length := by
  refine ⟨rows.length, ?_, rfl⟩
  rcases h with ⟨rfl, rfl⟩ | ⟨a, cap, rfl, hc, hm, hs, h⟩
  · exact ⟨none, 0, rfl, .inl rfl⟩
  · refine ⟨some a, cap, rfl, ?_⟩
    by_cases hr : rows = []
    · left; rw [hr]; rfl
    · refine .inr ⟨a.block, a.off, ?_, hc, hm, fun k hk => ⟨rows[k], h k _ (List.getElem?_eq_getElem hk)⟩⟩
      have := hs hr hl
      cases a; simp_all

def intOfRow : List Value → Int
  | [.int _ n] => n
  | _ => 0
theorem ints_of_slice {w : World} {v : Value} {rows : List (List Value)} (h : IsSlice w v [some .i64] rows) : ∃ xs : List Int, IntsIn w v xs ∧ xs.length = rows.length ∧ ∀ j, j < xs.length → (Lit.int .i64 (xs.getD j 0)).wf = true := by
  refine ⟨rows.map intOfRow, ?_, by simp, ?_⟩
  · rcases h with ⟨rfl, rfl⟩ | ⟨a, cap, rfl, hc, _, hs, h⟩
    · exact ⟨none, 0, rfl, .inl rfl⟩
    · refine ⟨some a, cap, by simp, ?_⟩
      cases rows with
      | nil => exact .inl rfl
      | cons r0 rs =>
        refine .inr ⟨a.block, a.off, ?_, by simpa using hc, fun j hj => ?_⟩
        · have := hs (by simp) (by simp)
          cases a; simp_all
        · simp only [List.length_map] at hj
          obtain ⟨h1, h2⟩ := h j _ (List.getElem?_eq_getElem hj)
          obtain ⟨n, us, e, hn, hf⟩ := fits_int h1
          have hu := fits_nil hf
          subst hu
          have h3 := h2 0 (by simp)
          rw [e] at h3
          simp only [List.length_cons, List.length_nil, Nat.zero_add, Nat.mul_one, Nat.add_zero] at h3
          rw [h3, List.getD_eq_getElem?_getD, List.getElem?_map, List.getElem?_eq_getElem hj, e]
          rfl
  · intro j hj
    simp only [List.length_map] at hj
    rcases h with ⟨rfl, rfl⟩ | ⟨a, cap, rfl, hc, _, hs, h⟩
    · simp at hj
    · obtain ⟨h1, h2⟩ := h j _ (List.getElem?_eq_getElem hj)
      obtain ⟨n, us, e, hn, hf⟩ := fits_int h1
      have hu := fits_nil hf
      subst hu
      rw [List.getD_eq_getElem?_getD, List.getElem?_map, List.getElem?_eq_getElem hj, e]
      exact hn
theorem IntsIn.old {w w' : World} {v : Value} {xs : List Int} (h : IntsIn w v xs) (ht : Touch nob w w') : IntsIn w' v xs := h.touch ht (fun _ _ x => x)
end Go.Proofs.YtjbmpdibjfcafaaDoor
