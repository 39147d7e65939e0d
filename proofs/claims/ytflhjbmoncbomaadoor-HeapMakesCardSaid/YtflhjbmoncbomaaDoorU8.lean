/- Slices of bytes that came in: general lemmas; no program in them. Conditions: none. -/
import Derived.Test.YtflhjbmoncbomaaDoorLL
namespace Go.Proofs.YtflhjbmoncbomaaDoor
open Go.RowKit

theorem u8s_of_slice {w : World} {v : Value} {rows : List (List Value)} (h : IsSlice w v [some .u8] rows) : ∃ us : List Int, U8In w v us ∧ ∀ j, j < us.length → 0 ≤ us.getD j 0 ∧ us.getD j 0 < 256 := by
  refine ⟨rows.map intOfRow, ?_, ?_⟩
  · rcases h with ⟨rfl, rfl⟩ | ⟨a, cap, rfl, hc, _, hs, h⟩
    · exact ⟨none, 0, rfl, .inl rfl⟩
    · refine ⟨some a, cap, by simp, ?_⟩
      cases rows with
      | nil => exact .inl rfl
      | cons r0 rs =>
        refine .inr ⟨a.block, a.off, ?_, by simpa using hc, fun j hj => ?_⟩
        · have := hs (by simp) (by simp)
          cases a; simp_all
        · simp only [List.length_map] at hj
          obtain ⟨h1, h2⟩ := h j _ (List.getElem?_eq_getElem hj)
          obtain ⟨n, us, e, hn, hf⟩ := fits_int h1
          have hu := fits_nil hf
          subst hu
          have h3 := h2 0 (by simp)
          rw [e] at h3
          simp only [List.length_cons, List.length_nil, Nat.zero_add, Nat.mul_one, Nat.add_zero] at h3
          rw [h3, List.getD_eq_getElem?_getD, List.getElem?_map, List.getElem?_eq_getElem hj, e]
          rfl
  · intro j hj
    simp only [List.length_map] at hj
    rcases h with ⟨rfl, rfl⟩ | ⟨a, cap, rfl, hc, _, hs, h⟩
    · simp at hj
    · obtain ⟨h1, h2⟩ := h j _ (List.getElem?_eq_getElem hj)
      obtain ⟨n, us, e, hn, hf⟩ := fits_int h1
      have hu := fits_nil hf
      subst hu
      rw [List.getD_eq_getElem?_getD, List.getElem?_map, List.getElem?_eq_getElem hj, e]
      have := bounds_u8 hn
      show 0 ≤ n ∧ n < 256
      exact ⟨this.1, by omega⟩
end Go.Proofs.YtflhjbmoncbomaaDoor
