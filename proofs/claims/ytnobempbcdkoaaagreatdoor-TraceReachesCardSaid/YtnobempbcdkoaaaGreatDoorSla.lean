/- Marks that ranges over functions leave among the deferred calls; a loop whose measure stands in no slot. Conditions: none. Slices of ints that are never written again: what they hold. Conditions: none beyond what each says. -/
import Derived.Test.YtnobempbcdkoaaaGreatDoorRep
namespace Go.Proofs.YtnobempbcdkoaaaGreatDoor
open Go.RowKit

theorem owns_take {w : World} {base : Nat} {e : TypeId} {g n cap : Nat} {xs : List Value} (h : w.ownsRow base e 1 (.slice (some ⟨g, 0, none⟩) n cap) n xs) {k : Nat} (hk : k ≤ n) : w.ownsRow base e 1 (.slice (some ⟨g, 0, none⟩) k cap) k (xs.take k) := by
  obtain ⟨h1, h2⟩ := h
  refine ⟨by rw [List.length_take]; omega, ?_⟩
  rcases h2 with ⟨h2, _⟩ | ⟨g', cap', cur, hv, hg, hh, hn, hm, hc, ht⟩
  · cases h2
  · cases hv
    refine .inr ⟨g, cap, cur, rfl, hg, hh, by omega, hm, hc, ?_⟩
    rw [← ht, List.take_take, Nat.mul_one, Nat.mul_one, Nat.min_eq_left hk]
/-- The marks of the ranges over functions that are done. -/
def Marks (n0 : Nat) (ds : List Deferred) (w : World) : Prop :=
  ∃ Ds : List Nat, Ds.Nodup ∧ ds = Ds.map (fun D => { target := .collected D, args := #[] }) ∧ ∀ D ∈ Ds, n0 ≤ D ∧ w.heap[D]? = some (.deferred (some []))
variable {n0 : Nat} {ds : List Deferred} {w w' : World}
theorem Marks.nil : Marks n0 [] w := ⟨[], List.nodup_nil, rfl, fun D h => by cases h⟩
theorem Marks.cons {D : Nat} (h : Marks n0 ds w) (hD : w.heap[D]? = some (.deferred (some []))) (hn : n0 ≤ D) (hne : ∀ (E : Nat), ({ target := .collected E, args := #[] } : Deferred) ∈ ds → E ≠ D) : Marks n0 ({ target := .collected D, args := #[] } :: ds) w := by
  obtain ⟨Ds, h1, rfl, h3⟩ := h
  refine ⟨D :: Ds, List.nodup_cons.2 ⟨fun hm => hne D (List.mem_map.2 ⟨D, hm, rfl⟩) rfl, h1⟩, rfl, fun E hE => ?_⟩
  rcases List.mem_cons.1 hE with rfl | hE
  · exact ⟨hn, hD⟩
  · exact h3 E hE
theorem Marks.at {D : Nat} (h : Marks n0 ds w) (hD : ({ target := .collected D, args := #[] } : Deferred) ∈ ds) : n0 ≤ D ∧ w.heap[D]? = some (.deferred (some [])) := by
  obtain ⟨Ds, h1, rfl, h3⟩ := h
  obtain ⟨E, hE, e⟩ := List.mem_map.1 hD
  obtain rfl : E = D := by simpa using e
  exact h3 E hE
theorem Marks.lt {D : Nat} (h : Marks n0 ds w) (hD : ({ target := .collected D, args := #[] } : Deferred) ∈ ds) : D < w.heap.size := (Array.getElem?_eq_some_iff.1 (h.at hD).2).1
/-- What turns no mark keeps them. -/
theorem Marks.touch {T : Nat → Prop} (h : Marks n0 ds w) (ht : Touch T w w') (hn : ∀ D, n0 ≤ D → w.heap[D]? = some (.deferred (some [])) → ¬ T D) : Marks n0 ds w' := by
  obtain ⟨Ds, h1, h2, h3⟩ := h
  exact ⟨Ds, h1, h2, fun D hD => ⟨(h3 D hD).1, (ht.block D (Array.getElem?_eq_some_iff.1 (h3 D hD).2).1 (hn D (h3 D hD).1 (h3 D hD).2)).trans (h3 D hD).2⟩⟩
/-- A function leaves by way of its marks. -/
theorem leaves_marks {P : Program} {fn : Func} {tmps : Array Value} {R : Ending → World → Prop} : ∀ (ds : List Deferred) (w : World), Marks n0 ds w →
    (∀ w', Touch (fun b => n0 ≤ b ∧ ({ target := .collected b, args := #[] } : Deferred) ∈ ds) w w' → ∃ v, (results fn tmps).run P w' = .ok v w' ∧ R (.returned v) w') → LeavesInM Fence.wide 0 P fn tmps R ds .returning w
  | [], w, _, h => by
    obtain ⟨v, h1, h2⟩ := h w (Touch.refl _ _)
    exact ⟨v, h1, h2⟩
  | d :: ds, w, hm, h => by
    obtain ⟨Ds, h1, h2, h3⟩ := hm
    cases Ds with
    | nil => cases h2
    | cons D Ds =>
      obtain ⟨hd, hds⟩ := List.cons.inj h2
      subst hd
      obtain ⟨n1, n2⟩ := List.nodup_cons.1 h1
      have hD := (h3 D (List.mem_cons_self ..)).2
      have ht : Touch (fun b => b = D) w (w.putObj D (.deferred none)) := Touch.putObj (S := fun b => b = D) (Touch.refl _ _) (.inl rfl) _
      refine ⟨by simp, .inl ⟨D, _, rfl, run_takeDeferred hD, leaves_marks ds _ ⟨Ds, n2, hds, fun E hE => ?_⟩ fun w' ht' => h w' ?_⟩⟩
      · obtain ⟨e1, e2⟩ := h3 E (List.mem_cons_of_mem _ hE)
        exact ⟨e1, (ht.block E (Array.getElem?_eq_some_iff.1 e2).1 (fun e => n1 (e ▸ hE))).trans e2⟩
      · exact (ht.mono fun b _ e => by subst e; exact ⟨(h3 b (List.mem_cons_self ..)).1, List.mem_cons_self ..⟩).trans (ht'.mono fun b _ e => ⟨e.1, List.mem_cons_of_mem _ e.2⟩)
/-- A loop whose measure stands in no slot. -/
theorem wpIn_loop_g {G : Type} {F : Fence} {n : Nat} {P : Program} {c : Code} {Q : Exit → Act → World → Prop} {a : Act} {w : World} (I : G → Act → World → Prop) (μ : G → Nat) (g0 : G) (h₀ : I g0 a w)
    (round : ∀ g a w, I g a w → c.wpIn F n P (Exit.then (fun a' w' => ∃ g', I g' a' w' ∧ μ g' < μ g) Q) a w) : (Code.loop c).wpIn F n P Q a w := by
  classical
  have least : ∀ a w, (∃ g, I g a w) → ∃ g, I g a w ∧ ∀ g', I g' a w → μ g ≤ μ g' := fun a w h => by
    have key : ∀ k g, I g a w → μ g = k → ∃ g, I g a w ∧ ∀ g', I g' a w → μ g ≤ μ g' := fun k => by
      induction k using Nat.strongRecOn with
      | _ k ih =>
        intro g hg e
        by_cases h : ∃ g', I g' a w ∧ μ g' < μ g
        · obtain ⟨g', h1, h2⟩ := h
          exact ih _ (e ▸ h2) g' h1 rfl
        · exact ⟨g, hg, fun g' h' => Nat.le_of_not_lt fun hl => h ⟨g', h', hl⟩⟩
    obtain ⟨g, hg⟩ := h
    exact key _ g hg rfl
  refine wpIn_loop (fun a w => ∃ g, I g a w) (fun a w => if h : ∃ g, I g a w then μ (least a w h).choose else 0) ⟨g0, h₀⟩ fun a w h => ?_
  have hs := (least a w h).choose_spec
  refine Code.wpIn_mono (fun e a' w' hq => ?_) (round _ a w hs.1)
  cases e with
  | normal =>
    obtain ⟨g', h1, h2⟩ := hq
    have h' : ∃ g, I g a' w' := ⟨g', h1⟩
    refine ⟨h', ?_⟩
    rw [dif_pos h', dif_pos h]
    exact Nat.lt_of_le_of_lt ((least a' w' h').choose_spec.2 g' h1) h2
  | _ => exact hq
end Go.Proofs.YtnobempbcdkoaaaGreatDoor
namespace Go.Proofs.YtnobempbcdkoaaaGreatDoor
open Go.RowKit

/-- A slice that holds so many ints; its row stays as it is. -/
def SlAt (w : World) (v : Value) (xs : List Int) : Prop :=
  (v = .slice none 0 0 ∧ xs = []) ∨ ∃ g o cap cur, v = .slice (some ⟨g, o, none⟩) xs.length cap ∧ xs.length ≤ cap ∧ w.heap[g]? = some (.cells cur 3) ∧ ∀ j, j < xs.length → cur[o + j]? = some (.int .i64 (xs.getD j 0))
variable {w w' : World} {v : Value} {xs : List Int} {S : Nat → Prop}
theorem SlAt.nil (w : World) : SlAt w (.slice none 0 0) [] := .inl ⟨rfl, rfl⟩
theorem SlAt.touch (h : SlAt w v xs) (ht : Touch S w w') (hs : ∀ b, v.ownBlock = some b → ¬ S b) : SlAt w' v xs := by
  rcases h with h | ⟨g, o, cap, cur, rfl, h1, h2, h3⟩
  · exact .inl h
  · exact .inr ⟨g, o, cap, cur, rfl, h1, blk_touch h2 ht (hs g rfl), h3⟩
theorem SlAt.old (h : SlAt w v xs) (ht : Touch nob w w') : SlAt w' v xs := h.touch ht (fun _ _ x => x)
theorem SlAt.ne (h : SlAt w v xs) {p : Nat} {cs : Array Value} {t : TypeId} (hp : w.heap[p]? = some (.cells cs t)) (ht : t ≠ 3) : ∀ b, v.ownBlock = some b → b ≠ p := by
  rintro b hb rfl
  rcases h with ⟨rfl, _⟩ | ⟨g, o, cap, cur, rfl, h1, h2, h3⟩
  · cases hb
  · cases hb
    have := h2.symm.trans hp
    simp at this
    exact ht this.2.symm
theorem SlAt.lt (h : SlAt w v xs) : ∀ b, v.ownBlock = some b → b < w.heap.size := by
  rintro b hb
  rcases h with ⟨rfl, _⟩ | ⟨g, o, cap, cur, rfl, h1, h2, h3⟩
  · cases hb
  · cases hb; exact blk_lt h2
theorem touch_set (w : World) (p o : Nat) (u : Value) : Touch (fun b => b = p) w (w.setCell ⟨p, o, none⟩ u) := Touch.setCell (S := fun b => b = p) (Touch.refl _ _) (.inl rfl) _
theorem SlAt.set (h : SlAt w v xs) {p : Nat} {cs : Array Value} {t : TypeId} (hp : w.heap[p]? = some (.cells cs t)) (ht : t ≠ 3) (o : Nat) (u : Value) : SlAt (w.setCell ⟨p, o, none⟩ u) v xs :=
  h.touch (touch_set w p o u) (h.ne hp ht)
theorem SlAt.len (h : SlAt w v xs) : ∃ ao cap, v = .slice ao xs.length cap ∧ xs.length ≤ cap := by
  rcases h with ⟨rfl, rfl⟩ | ⟨g, o, cap, cur, rfl, h1, h2, h3⟩
  · exact ⟨_, _, rfl, Nat.le_refl _⟩
  · exact ⟨_, _, rfl, h1⟩
theorem SlAt.cell {g o n cap : Nat} (h : SlAt w (.slice (some ⟨g, o, none⟩) n cap) xs) {j : Nat} (hj : j < xs.length) : w.cell? ⟨g, o + j, none⟩ = some (.int .i64 (xs.getD j 0)) := by
  rcases h with ⟨h, _⟩ | ⟨g, o, cap, cur, h, h1, h2, h3⟩
  · cases h
  · cases h
    simp only [World.cell?, h2]
    exact h3 j hj
theorem SlAt.of_owns {base n : Nat} (h : w.ownsRow base 3 1 v n (xs.map (.int .i64))) : SlAt w v xs := by
  obtain ⟨h1, h2⟩ := id h
  rcases h2 with ⟨rfl, rfl⟩ | ⟨g, cap, cur, rfl, hg, hh, hn, _, hc, ht⟩
  · exact .inl ⟨rfl, by simpa using h1⟩
  · have hl : xs.length = n := by simpa using h1
    refine .inr ⟨g, 0, cap, cur, by rw [hl], by omega, hh, fun j hj => ?_⟩
    have h5 : (cur.toList.take (n * 1))[j]? = some (Value.int .i64 (xs.getD j 0)) := by
      rw [ht, List.getElem?_map, List.getElem?_eq_getElem hj]; simp [List.getD_eq_getElem?_getD, hj]
    rw [List.getElem?_take, if_pos (by omega)] at h5
    simpa using h5
theorem SlAt.ints (h : SlAt w v xs) : IntsIn w v xs := by
  rcases id h with ⟨rfl, rfl⟩ | ⟨g, o, cap, cur, rfl, h1, h2, h3⟩
  · exact ⟨none, 0, rfl, .inl rfl⟩
  · exact ⟨some ⟨g, o, none⟩, cap, rfl, .inr ⟨g, o, rfl, h1, fun j hj => h.cell hj⟩⟩
/-- What is left behind the first one. -/
theorem SlAt.tail {x : Int} {g o n cap : Nat} (h : SlAt w (.slice (some ⟨g, o, none⟩) n cap) (x :: xs)) {g' o' : Nat} (hg : g' = g) (ho : xs = [] ∨ o' = o + 1) : SlAt w (.slice (some ⟨g', o', none⟩) (n - 1) (cap - 1)) xs := by
  subst hg
  rcases h with ⟨h, _⟩ | ⟨g, o, cap, cur, h, h1, h2, h3⟩
  · cases h
  · cases h
    simp only [List.length_cons] at h1 h3 ⊢
    refine .inr ⟨_, o', cap - 1, cur, rfl, by omega, h2, fun j hj => ?_⟩
    rcases ho with rfl | rfl
    · simp at hj
    · have := h3 (j + 1) (by omega)
      rw [show o + 1 + j = o + (j + 1) by omega, this]
      simp [List.getD_eq_getElem?_getD]
/-- What is left ahead of the last one. -/
theorem SlAt.init {y : Int} {g o n cap : Nat} (h : SlAt w (.slice (some ⟨g, o, none⟩) n cap) (xs ++ [y])) {m : Nat} (hm : m = xs.length) : SlAt w (.slice (some ⟨g, o, none⟩) m cap) xs := by
  subst hm
  rcases h with ⟨h, _⟩ | ⟨g, o, cap, cur, h, h1, h2, h3⟩
  · cases h
  · cases h
    rw [List.length_append] at h1 h3
    simp only [List.length_cons, List.length_nil, Nat.zero_add] at h1 h3
    refine .inr ⟨_, o, cap, cur, rfl, by omega, h2, fun j hj => ?_⟩
    rw [h3 j (by omega)]
    simp [List.getD_eq_getElem?_getD, List.getElem?_append_left hj]
/-- The block of v' is that of v, or is new. -/
def SubB (w : World) (v' v : Value) : Prop := ∀ b, v'.ownBlock = some b → v.ownBlock = some b ∨ w.heap.size ≤ b
theorem subB_nil (w : World) (v : Value) : SubB w (.slice none 0 0) v := fun _ h => by cases h
theorem subB_owns {w w' : World} {base n : Nat} {e : TypeId} {v v0 : Value} {xs : List Value} (h : w'.ownsRow base e 1 v n xs) (hb : w.heap.size ≤ base) : SubB w v v0 := fun b hv => .inr (Nat.le_trans hb (h.lt b hv).1)
end Go.Proofs.YtnobempbcdkoaaaGreatDoor
