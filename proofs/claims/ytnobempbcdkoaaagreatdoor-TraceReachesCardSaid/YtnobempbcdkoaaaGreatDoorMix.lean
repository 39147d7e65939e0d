/- Opening structs that came in and hold slices: general lemmas; no program in them. Conditions: none. -/
import Derived.Test.YtnobempbcdkoaaaGreatDoorRep
namespace Go.Proofs.YtnobempbcdkoaaaGreatDoor
open Go.ChangeShapes Go.WideShapes Go.ChangeAt Go.RowKit

/-- What lies in a cell: a number or a truth; a slice of flat elements; a slice of such slices. -/
inductive Atm where
  | f (k : FK)
  | sl (l : List FK)
  | sl2 (l : List FK)
/-- A slice of slices of flat elements. -/
def IsSlice2 (w : World) (v : Value) (l : List FK) (vs : List Value) : Prop :=
  (v = .slice none 0 0 ∧ vs = []) ∨
  ∃ (a : Addr) (cap : Nat), v = .slice (some a) vs.length cap ∧ vs.length ≤ cap ∧ cap ≤ maxLen ∧ (vs ≠ [] → a.spot = none) ∧
    ∀ i u, vs[i]? = some u → (∃ rows, IsSlice w u l rows) ∧ w.cell? ⟨a.block, a.off + i, none⟩ = some u
def AtmH (w : World) : Atm → Value → Prop
  | .f k, v => Fit k v
  | .sl l, v => ∃ rows, IsSlice w v l rows
  | .sl2 l, v => ∃ vs, IsSlice2 w v l vs
inductive Mix (w : World) : List Atm → List Value → Prop where
  | nil : Mix w [] []
  | cons {a : Atm} {v : Value} {ks : List Atm} {vs : List Value} : AtmH w a v → Mix w ks vs → Mix w (a :: ks) (v :: vs)
theorem Mix.append {w : World} {ks ls : List Atm} {vs us : List Value} (h : Mix w ks vs) (g : Mix w ls us) : Mix w (ks ++ ls) (vs ++ us) := by
  induction h with
  | nil => exact g
  | cons a _ ih => exact .cons a ih
def fieldsMix (P : Program) (g : TypeId → Option (List Atm)) : List Field → Nat → Option (List Atm)
  | [], _ => some []
  | f :: fs, off =>
    match decide (f.offset = off), g f.type with
    | true, some l => match decide (l.length = P.cellsOf f.type), fieldsMix P g fs (off + l.length) with
      | true, some r => some (l ++ r)
      | _, _ => none
    | _, _ => none
def sliceMix (P : Program) (n : Nat) (e : TypeId) : Option (List Atm) :=
  match flatOf P n e with
  | some l => if l.length = P.cellsOf e then some [.sl l] else none
  | none =>
    match P.underlying e with
    | some (.slice e2) => match flatOf P n e2 with
      | some l => if l.length = P.cellsOf e2 ∧ P.cellsOf e = 1 then some [.sl2 l] else none
      | none => none
    | _ => none
/-- The cells of such a struct, in order. -/
def mixOf (P : Program) : Nat → TypeId → Option (List Atm)
  | 0, _ => none
  | n + 1, t =>
    match P.underlying t with
    | some (.int k) => some [.f (some k)]
    | some .bool => some [.f none]
    | some (.slice e) => sliceMix P n e
    | some (.struct fs) => match fieldsMix P (mixOf P n) fs.toList 0 with
      | some l => if l.length = P.cellsOf t then some l else none
      | none => none
    | _ => none
section
variable {H : Type} {enc : TypeId × Value → H} {P : Program} {w : World} {base : Nat} {spare : Nat → Bool} {held : Bool}
theorem trod_sl {t e : TypeId} {l : List FK} {n fuel : Nat} {cs : List Value} {x : DataW H × List MemPlace} (ht : P.underlying t = some (.slice e)) (hf : flatOf P n e = some l) (hl : l.length = P.cellsOf e)
    (hx : DataW.trod enc P w base spare held fuel t cs = some x) : ∃ v, cs = [v] ∧ ∃ rows, IsSlice w v l rows := by
  rcases DataW.trod_slice ht hx with ⟨h0, h1⟩ | ⟨a, len, cap, elems, rest, m, _, hcs, hxx, hb, hlc, hcm, hel, hall, _, _⟩
  · exact ⟨_, h0, [], .inl ⟨rfl, rfl⟩⟩
  · refine ⟨_, hcs, ?_⟩
    have hrow : ∀ i, i < len → ∃ cs, w.cells? base (a.add (i * P.cellsOf e)) (P.cellsOf e) = some cs ∧ Fits l cs := by
      intro i hi
      have := hall i hi
      rw [List.getElem?_eq_getElem (by omega)] at this
      obtain ⟨cs, h1, h2⟩ := Option.bind_eq_some_iff.1 this
      obtain ⟨_, h3, _⟩ := flat_open _ _ _ _ _ _ _ hf h2
      exact ⟨cs, h1, h3⟩
    have hrow' : ∃ R : Nat → List Value, ∀ i, i < len → w.cells? base (a.add (i * P.cellsOf e)) (P.cellsOf e) = some (R i) ∧ Fits l (R i) :=
      ⟨fun i => if hi : i < len then Classical.choose (hrow i hi) else [], fun i hi => by simp only [hi, dif_pos]; exact Classical.choose_spec (hrow i hi)⟩
    obtain ⟨R, hR⟩ := hrow'
    refine ⟨(List.range len).map R, .inr ⟨a, cap, by simp, by simpa using hlc, hcm, ?_, ?_⟩⟩
    · intro hne hl0
      have hpos : 0 < len := by
        rcases Nat.eq_zero_or_pos len with h0 | h0
        · subst h0; simp at hne
        · exact h0
      have hlp : 0 < l.length := List.length_pos_iff.2 hl0
      obtain ⟨_, h2, h3⟩ := World.cells?_some (hR 0 hpos).1
      have h4 := h3 0 (by omega)
      rw [List.getElem?_eq_getElem (by omega)] at h4
      simpa [Addr.add] using World.cell?_spot h4
    · intro i r hi
      obtain ⟨hlt, rfl⟩ := List.getElem?_eq_some_iff.1 hi
      simp only [List.length_map, List.length_range] at hlt
      simp only [List.getElem_map, List.getElem_range]
      refine ⟨(hR i hlt).2, fun j hj => ?_⟩
      obtain ⟨_, h2, h3⟩ := World.cells?_some (hR i hlt).1
      have h4 := h3 j (by omega)
      rw [List.getElem?_eq_getElem (by omega)] at h4 ⊢
      rw [hl]
      exact cell_add_add h4
theorem trod_sl2 {t e e2 : TypeId} {l : List FK} {n fuel : Nat} {cs : List Value} {x : DataW H × List MemPlace} (ht : P.underlying t = some (.slice e)) (he : P.underlying e = some (.slice e2)) (hf : flatOf P n e2 = some l) (hl : l.length = P.cellsOf e2) (h1 : P.cellsOf e = 1)
    (hx : DataW.trod enc P w base spare held fuel t cs = some x) : ∃ v, cs = [v] ∧ ∃ vs, IsSlice2 w v l vs := by
  rcases DataW.trod_slice ht hx with ⟨h0, _⟩ | ⟨a, len, cap, elems, rest, m, _, hcs, hxx, hb, hlc, hcm, hel, hall, _, _⟩
  · exact ⟨_, h0, [], .inl ⟨rfl, rfl⟩⟩
  · refine ⟨_, hcs, ?_⟩
    have hrow : ∀ i, i < len → ∃ u, w.cell? ⟨a.block, a.off + i, none⟩ = some u ∧ (i = 0 → a.spot = none) ∧ ∃ rows, IsSlice w u l rows := by
      intro i hi
      have := hall i hi
      rw [List.getElem?_eq_getElem (by omega)] at this
      obtain ⟨cs, g1, g2⟩ := Option.bind_eq_some_iff.1 this
      obtain ⟨v, rfl, g3⟩ := trod_sl he hf hl g2
      obtain ⟨_, h2, h3⟩ := World.cells?_some g1
      have h4 := h3 0 (by omega)
      rw [h1, Nat.mul_one] at h4
      refine ⟨v, ?_, ?_, g3⟩
      · have := cell_add_add h4
        simpa using this
      · intro h0
        subst h0
        simpa [Addr.add] using World.cell?_spot h4
    have hrow' : ∃ R : Nat → Value, ∀ i, i < len → w.cell? ⟨a.block, a.off + i, none⟩ = some (R i) ∧ (i = 0 → a.spot = none) ∧ ∃ rows, IsSlice w (R i) l rows :=
      ⟨fun i => if hi : i < len then Classical.choose (hrow i hi) else .slice none 0 0, fun i hi => by simp only [hi, dif_pos]; exact Classical.choose_spec (hrow i hi)⟩
    obtain ⟨R, hR⟩ := hrow'
    refine ⟨(List.range len).map R, .inr ⟨a, cap, by simp, by simpa using hlc, hcm, ?_, ?_⟩⟩
    · intro hne
      have hpos : 0 < len := by
        rcases Nat.eq_zero_or_pos len with h0 | h0
        · subst h0; simp at hne
        · exact h0
      exact (hR 0 hpos).2.1 rfl
    · intro i u hi
      obtain ⟨hlt, rfl⟩ := List.getElem?_eq_some_iff.1 hi
      simp only [List.length_map, List.length_range] at hlt
      simp only [List.getElem_map, List.getElem_range]
      exact ⟨(hR i hlt).2.2, (hR i hlt).1⟩
theorem fieldsMix_open {g : TypeId → Option (List Atm)} {fuel : Nat}
    (hg : ∀ t l cs x, g t = some l → DataW.trod enc P w base spare held fuel t cs = some x → Mix w l cs) :
    ∀ (fs : List Field) (off : Nat) (l : List Atm) (cs : List Value) (xs : List (DataW H × List MemPlace)), fieldsMix P g fs off = some l → xs.length = fs.length → cs.length = off + l.length →
      (∀ (i : Nat) (f : Field), fs[i]? = some f → DataW.trod enc P w base spare held fuel f.type ((cs.drop f.offset).take (P.cellsOf f.type)) = xs[i]?) →
      Mix w l (cs.drop off)
  | [], off, l, cs, xs, hf, _, hc, _ => by
    simp only [fieldsMix, Option.some.injEq] at hf
    subst hf
    have : cs.drop off = [] := by rw [List.drop_eq_nil_iff]; simp at hc; omega
    rw [this]
    exact .nil
  | f :: fs, off, l, cs, xs, hf, hx, hc, h => by
    simp only [fieldsMix] at hf
    split at hf
    · rename_i l1 h1 h2
      split at hf
      · rename_i r h3 h4
        simp only [Option.some.injEq] at hf
        subst hf
        simp only [decide_eq_true_eq] at h1 h3
        cases xs with
        | nil => simp at hx
        | cons x xs =>
          have e0 := h 0 f rfl
          simp only [List.getElem?_cons_zero] at e0
          have a2 := hg _ _ _ _ h2 e0
          have e1 : (cs.drop f.offset).take (P.cellsOf f.type) = (cs.drop off).take l1.length := by rw [h1, h3]
          rw [e1] at a2
          have ih := fieldsMix_open hg fs (off + l1.length) r cs xs h4 (by simpa using hx) (by simp at hc; omega) (fun i f' hi => by
            have := h (i + 1) f' (by simpa using hi)
            simpa using this)
          have e2 : cs.drop off = (cs.drop off).take l1.length ++ cs.drop (off + l1.length) := by
            rw [← List.drop_drop, List.take_append_drop]
          rw [e2]
          exact a2.append ih
      · cases hf
    · cases hf
theorem mix_trod : ∀ (n fuel : Nat) (t : TypeId) (l : List Atm) (cs : List Value) (x : DataW H × List MemPlace), mixOf P n t = some l → DataW.trod enc P w base spare held fuel t cs = some x → Mix w l cs
  | 0, _, _, _, _, _, hf, _ => by simp [mixOf] at hf
  | n + 1, fuel, t, l, cs, x, hf, h => by
    simp only [mixOf] at hf
    split at hf
    · rename_i k hu
      simp only [Option.some.injEq] at hf
      subst hf
      obtain ⟨z, rfl, hx, hz⟩ := DataW.trod_int hu h
      exact .cons ⟨z, rfl, hz⟩ .nil
    · rename_i hu
      simp only [Option.some.injEq] at hf
      subst hf
      obtain ⟨z, rfl, hx⟩ := DataW.trod_bool hu h
      exact .cons ⟨z, rfl⟩ .nil
    · rename_i e hu
      unfold sliceMix at hf
      split at hf
      · rename_i l' hl
        split at hf
        · rename_i hlen
          simp only [Option.some.injEq] at hf
          subst hf
          obtain ⟨v, rfl, hv⟩ := trod_sl hu hl hlen h
          exact .cons hv .nil
        · cases hf
      · split at hf
        · rename_i e2 he
          split at hf
          · rename_i l' hl
            split at hf
            · rename_i hlen
              simp only [Option.some.injEq] at hf
              subst hf
              obtain ⟨v, rfl, hv⟩ := trod_sl2 hu he hl hlen.1 hlen.2 h
              exact .cons hv .nil
            · cases hf
          · cases hf
        · cases hf
    · rename_i fs hu
      split at hf
      · rename_i l' hl
        split at hf
        · rename_i hlen
          simp only [Option.some.injEq] at hf
          subst hf
          obtain ⟨xs, m, rfl, hx, hc, hxl, hall⟩ := DataW.trod_struct hu h
          have := fieldsMix_open (fun t l cs x a b => mix_trod n m t l cs x a b) fs.toList 0 l' cs xs hl (by simpa using hxl) (by omega) (fun i f hi => hall i f (by simpa using hi))
          simpa using this
        · cases hf
      · cases hf
    · cases hf
/-- A struct that holds slices, opened. -/
theorem open_mix {fs : Array Field} {t : TypeId} {l : List Atm} {r : Reach} {b0 n : Nat} {v : Value} {d : DataW H} {p : List MemPlace} (ht : P.underlying t = some (.struct fs)) (hf : mixOf P n t = some l)
    (hv : Value.okWide P w r b0 t v) (h : DataW.Trod enc P w base spare held t v d p) : ∃ cs, v = .agg cs.toArray ∧ Mix w l cs := by
  obtain ⟨cs, rfl, _⟩ := okWide_struct ht hv
  obtain ⟨fuel, hx⟩ := h
  exact ⟨cs.toList, by simp, by simpa [Value.cells] using mix_trod _ _ _ _ _ _ hf hx⟩
/-- A slice of slices, opened. -/
theorem open_slice2 {t : TypeId} {l : List FK} {r : Reach} {b0 n : Nat} {v : Value} {d : DataW H} {p : List MemPlace} {e : TypeId} (ht : P.underlying t = some (.slice e)) (hf : mixOf P n t = some [.sl2 l])
    (hv : Value.okWide P w r b0 t v) (h : DataW.Trod enc P w base spare held t v d p) : ∃ vs, IsSlice2 w v l vs := by
  obtain ⟨a0, len, cap, rfl⟩ := okWide_slice ht hv
  obtain ⟨fuel, hx⟩ := h
  have := mix_trod _ _ _ _ _ _ hf hx
  simp only [Value.cells] at this
  cases this with
  | cons a b => exact a
end
theorem mix_int {w : World} {k : IntKind} {ks : List Atm} {vs : List Value} (h : Mix w (.f (some k) :: ks) vs) : ∃ n us, vs = .int k n :: us ∧ (Lit.int k n).wf = true ∧ Mix w ks us := by
  cases h with
  | cons a b => obtain ⟨n, rfl, hn⟩ := a; exact ⟨n, _, rfl, hn, b⟩
theorem mix_bool {w : World} {ks : List Atm} {vs : List Value} (h : Mix w (.f none :: ks) vs) : ∃ b us, vs = .bool b :: us ∧ Mix w ks us := by
  cases h with
  | cons a b => obtain ⟨n, rfl⟩ := a; exact ⟨n, _, rfl, b⟩
theorem mix_sl {w : World} {l : List FK} {ks : List Atm} {vs : List Value} (h : Mix w (.sl l :: ks) vs) : ∃ v rows us, vs = v :: us ∧ IsSlice w v l rows ∧ Mix w ks us := by
  cases h with
  | cons a b => obtain ⟨rows, hr⟩ := a; exact ⟨_, rows, _, rfl, hr, b⟩
theorem mix_sl2 {w : World} {l : List FK} {ks : List Atm} {vs : List Value} (h : Mix w (.sl2 l :: ks) vs) : ∃ v us ws, vs = v :: us ∧ IsSlice2 w v l ws ∧ Mix w ks us := by
  cases h with
  | cons a b => obtain ⟨ws, hr⟩ := a; exact ⟨_, _, ws, rfl, hr, b⟩
theorem mix_nil {w : World} {vs : List Value} (h : Mix w [] vs) : vs = [] := by cases h; rfl
/-- A slice of ints of some kind. -/
def KIn (k : IntKind) (w : World) (v : Value) (xs : List Int) : Prop :=
  ∃ ao cap, v = .slice ao xs.length cap ∧ (xs = [] ∨ ∃ b o, ao = some ⟨b, o, none⟩ ∧ xs.length ≤ cap ∧ ∀ j, j < xs.length → w.cell? ⟨b, o + j, none⟩ = some (.int k (xs.getD j 0)))
theorem KIn.touch {k : IntKind} {S : Nat → Prop} {w w' : World} {v : Value} {xs : List Int} (h : KIn k w v xs) (ht : Touch S w w') (hs : ∀ b, v.ownBlock = some b → ¬ S b) : KIn k w' v xs := by
  obtain ⟨ao, cap, rfl, h⟩ := h
  refine ⟨ao, cap, rfl, ?_⟩
  rcases h with h | ⟨b, o, rfl, hc, h⟩
  · exact .inl h
  · refine .inr ⟨b, o, rfl, hc, fun j hj => ?_⟩
    have h1 := h j hj
    exact (ht.cell (cell_lt h1) (hs b rfl)).trans h1
theorem KIn.old {k : IntKind} {w w' : World} {v : Value} {xs : List Int} (h : KIn k w v xs) (ht : Touch nob w w') : KIn k w' v xs := h.touch ht (fun _ _ x => x)
theorem k_of_slice {k : IntKind} {w : World} {v : Value} {rows : List (List Value)} (h : IsSlice w v [some k] rows) : ∃ us : List Int, KIn k w v us ∧ us.length = rows.length ∧ ∀ j, j < us.length → (Lit.int k (us.getD j 0)).wf = true := by
  refine ⟨rows.map intOfRow, ?_, by simp, ?_⟩
  · rcases h with ⟨rfl, rfl⟩ | ⟨a, cap, rfl, hc, _, hs, h⟩
    · exact ⟨none, 0, rfl, .inl rfl⟩
    · refine ⟨some a, cap, by simp, ?_⟩
      cases rows with
      | nil => exact .inl rfl
      | cons r0 rs =>
        refine .inr ⟨a.block, a.off, ?_, by simpa using hc, fun j hj => ?_⟩
        · have := hs (by simp) (by simp)
          cases a; simp_all
        · simp only [List.length_map] at hj
          obtain ⟨h1, h2⟩ := h j _ (List.getElem?_eq_getElem hj)
          obtain ⟨n, us, e, hn, hf⟩ := fits_int h1
          have hu := fits_nil hf
          subst hu
          have h3 := h2 0 (by simp)
          rw [e] at h3
          simp only [List.length_cons, List.length_nil, Nat.zero_add, Nat.mul_one, Nat.add_zero] at h3
          rw [h3, List.getD_eq_getElem?_getD, List.getElem?_map, List.getElem?_eq_getElem hj, e]
          rfl
  · intro j hj
    simp only [List.length_map] at hj
    rcases h with ⟨rfl, rfl⟩ | ⟨a, cap, rfl, hc, _, hs, h⟩
    · simp at hj
    · obtain ⟨h1, h2⟩ := h j _ (List.getElem?_eq_getElem hj)
      obtain ⟨n, us, e, hn, hf⟩ := fits_int h1
      have hu := fits_nil hf
      subst hu
      rw [List.getD_eq_getElem?_getD, List.getElem?_map, List.getElem?_eq_getElem hj, e]
      exact hn
theorem KIn.at {k : IntKind} {w : World} {v : Value} {xs : List Int} (h : KIn k w v xs) {j : Nat} (hj : j < xs.length) : ∃ b o cap, v = .slice (some ⟨b, o, none⟩) xs.length cap ∧ xs.length ≤ cap ∧ w.cell? ⟨b, o + j, none⟩ = some (.int k (xs.getD j 0)) := by
  obtain ⟨ao, cap, e, h0 | ⟨b, o, rfl, hc, hcl⟩⟩ := h
  · subst h0; simp at hj
  · exact ⟨b, o, cap, e, hc, hcl j hj⟩
theorem KIn.shape {k : IntKind} {w : World} {v : Value} {xs : List Int} (h : KIn k w v xs) : ∃ ao cap, v = .slice ao xs.length cap := by
  obtain ⟨ao, cap, e, _⟩ := h
  exact ⟨ao, cap, e⟩
end Go.Proofs.YtnobempbcdkoaaaGreatDoor
