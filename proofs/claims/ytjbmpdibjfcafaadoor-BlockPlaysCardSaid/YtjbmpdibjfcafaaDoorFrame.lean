/- Opening flat arguments and tables, and closing a law's row: general lemmas, no program in them. Conditions: none. -/
import Derived.WalkKit
import Derived.ProofKit
import Derived.LaidMore
import Derived.OpenShut
import Derived.Carry
namespace Go.Proofs.YtjbmpdibjfcafaaDoor
open Go.ChangeShapes Go.WideShapes Go.ChangeAt Go.RowKit

/-- A flat type's cells: an integer of a kind, or a bool. -/
abbrev FK := Option IntKind

def Fit : FK → Value → Prop
  | some k, v => ∃ n, v = .int k n ∧ (Lit.int k n).wf = true
  | none, v => ∃ b, v = .bool b

def fieldsFlat (P : Program) (g : TypeId → Option (List FK)) : List Field → Nat → Option (List FK)
  | [], _ => some []
  | f :: fs, off =>
    match decide (f.offset = off), g f.type with
    | true, some l => match decide (l.length = P.cellsOf f.type), fieldsFlat P g fs (off + l.length) with
      | true, some r => some (l ++ r)
      | _, _ => none
    | _, _ => none

/-- The cells of a flat type, in order. -/
def flatOf (P : Program) : Nat → TypeId → Option (List FK)
  | 0, _ => none
  | n + 1, t =>
    match P.underlying t with
    | some (.int k) => some [some k]
    | some .bool => some [none]
    | some (.struct fs) => match fieldsFlat P (flatOf P n) fs.toList 0 with
      | some l => if l.length = P.cellsOf t then some l else none
      | none => none
    | some (.array k e) => match flatOf P n e with
      | some l => if l.length = P.cellsOf e ∧ k * l.length = P.cellsOf t then some (List.replicate k l).flatten else none
      | none => none
    | _ => none

/-- The cells that a flat datum is read from. -/
def cellsD {H : Type} : Nat → DataW H → List Value
  | 0, _ => []
  | _ + 1, .lit (.int k n) => [.int k n]
  | _ + 1, .lit (.bool b) => [.bool b]
  | n + 1, .agg ds => ds.flatMap (cellsD n)
  | _ + 1, _ => []

section
variable {H : Type} {enc : TypeId × Value → H} {P : Program} {w : World} {base : Nat} {spare : Nat → Bool} {held : Bool}

inductive Fits : List FK → List Value → Prop where
  | nil : Fits [] []
  | cons {k : FK} {v : Value} {ks : List FK} {vs : List Value} : Fit k v → Fits ks vs → Fits (k :: ks) (v :: vs)

theorem Fits.length {ks : List FK} {vs : List Value} (h : Fits ks vs) : vs.length = ks.length := by
  induction h with
  | nil => rfl
  | cons _ _ ih => simp [ih]

theorem Fits.append {ks ls : List FK} {vs us : List Value} (h : Fits ks vs) (g : Fits ls us) : Fits (ks ++ ls) (vs ++ us) := by
  induction h with
  | nil => exact g
  | cons a _ ih => exact .cons a ih

theorem fields_open {g : TypeId → Option (List FK)} {fuel n : Nat}
    (hg : ∀ t l cs d p, g t = some l → DataW.trod enc P w base spare held fuel t cs = some (d, p) → cs = cellsD n d ∧ Fits l cs ∧ p = []) :
    ∀ (fs : List Field) (off : Nat) (l : List FK) (cs : List Value) (xs : List (DataW H × List MemPlace)), fieldsFlat P g fs off = some l → xs.length = fs.length → cs.length = off + l.length →
      (∀ (i : Nat) (f : Field), fs[i]? = some f → DataW.trod enc P w base spare held fuel f.type ((cs.drop f.offset).take (P.cellsOf f.type)) = xs[i]?) →
      cs.drop off = (xs.map (·.1)).flatMap (cellsD n) ∧ Fits l (cs.drop off) ∧ xs.flatMap (·.2) = []
  | [], off, l, cs, xs, hf, hx, hc, _ => by
    simp only [fieldsFlat, Option.some.injEq] at hf
    subst hf
    have : xs = [] := by cases xs <;> simp_all
    subst this
    have : cs.drop off = [] := by rw [List.drop_eq_nil_iff]; simp at hc; omega
    rw [this]
    exact ⟨rfl, .nil, rfl⟩
  | f :: fs, off, l, cs, xs, hf, hx, hc, h => by
    simp only [fieldsFlat] at hf
    split at hf
    · rename_i l1 h1 h2
      split at hf
      · rename_i r h3 h4
        simp only [Option.some.injEq] at hf
        subst hf
        simp only [decide_eq_true_eq] at h1 h3
        cases xs with
        | nil => simp at hx
        | cons x xs =>
          obtain ⟨d, p⟩ := x
          have e0 := h 0 f rfl
          simp only [List.getElem?_cons_zero] at e0
          obtain ⟨a1, a2, a3⟩ := hg _ _ _ _ _ h2 e0
          have e1 : (cs.drop f.offset).take (P.cellsOf f.type) = (cs.drop off).take l1.length := by rw [h1, h3]
          rw [e1] at a1 a2
          have ih := fields_open hg fs (off + l1.length) r cs xs h4 (by simpa using hx) (by simp at hc; omega) (fun i f' hi => by
            have := h (i + 1) f' (by simpa using hi)
            simpa using this)
          obtain ⟨b1, b2, b3⟩ := ih
          have e2 : cs.drop off = (cs.drop off).take l1.length ++ cs.drop (off + l1.length) := by
            rw [← List.drop_drop, List.take_append_drop]
          refine ⟨?_, ?_, ?_⟩
          · rw [e2, b1, a1]; simp
          · rw [e2]; exact a2.append b2
          · simp [a3, b3]
      · cases hf
    · cases hf

theorem array_open {g : List FK} {e : TypeId} {fuel n : Nat} (hgl : g.length = P.cellsOf e)
    (hg : ∀ cs d p, DataW.trod enc P w base spare held fuel e cs = some (d, p) → cs = cellsD n d ∧ Fits g cs ∧ p = []) :
    ∀ (k off : Nat) (cs : List Value) (xs : List (DataW H × List MemPlace)), xs.length = k → cs.length = (off + k) * P.cellsOf e →
      (∀ (i : Nat), i < k → DataW.trod enc P w base spare held fuel e ((cs.drop ((off + i) * P.cellsOf e)).take (P.cellsOf e)) = xs[i]?) →
      cs.drop (off * P.cellsOf e) = (xs.map (·.1)).flatMap (cellsD n) ∧ Fits (List.replicate k g).flatten (cs.drop (off * P.cellsOf e)) ∧ xs.flatMap (·.2) = []
  | 0, off, cs, xs, hx, hc, _ => by
    have : xs = [] := by cases xs <;> simp_all
    subst this
    have : cs.drop (off * P.cellsOf e) = [] := by rw [List.drop_eq_nil_iff]; simp at hc; omega
    rw [this]
    exact ⟨rfl, .nil, rfl⟩
  | k + 1, off, cs, xs, hx, hc, h => by
    cases xs with
    | nil => simp at hx
    | cons x xs =>
      obtain ⟨d, p⟩ := x
      have e0 := h 0 (by omega)
      simp only [List.getElem?_cons_zero, Nat.add_zero] at e0
      obtain ⟨a1, a2, a3⟩ := hg _ _ _ e0
      obtain ⟨b1, b2, b3⟩ := array_open hgl hg k (off + 1) cs xs (by simpa using hx) (by rw [hc]; congr 1; omega) (fun i hi => by
        have := h (i + 1) (by omega)
        rw [show off + 1 + i = off + (i + 1) by omega]
        simpa using this)
      have e2 : cs.drop (off * P.cellsOf e) = (cs.drop (off * P.cellsOf e)).take (P.cellsOf e) ++ cs.drop ((off + 1) * P.cellsOf e) := by
        rw [Nat.add_mul, Nat.one_mul, ← List.drop_drop, List.take_append_drop]
      refine ⟨?_, ?_, ?_⟩
      · rw [e2, b1, a1]; simp
      · rw [e2, List.replicate_succ, List.flatten_cons]; exact a2.append b2
      · simp [a3, b3]

/-- A flat type's reading, opened: the cells are the datum's, each of its kind. -/
theorem flat_open : ∀ (n fuel : Nat) (t : TypeId) (l : List FK) (cs : List Value) (d : DataW H) (p : List MemPlace), flatOf P n t = some l → DataW.trod enc P w base spare held fuel t cs = some (d, p) →
    cs = cellsD n d ∧ Fits l cs ∧ p = []
  | 0, _, _, _, _, _, _, hf, _ => by simp [flatOf] at hf
  | n + 1, fuel, t, l, cs, d, p, hf, h => by
    simp only [flatOf] at hf
    split at hf
    · rename_i k hu
      simp only [Option.some.injEq] at hf
      subst hf
      obtain ⟨z, rfl, hx, hz⟩ := DataW.trod_int hu h
      simp only [Prod.mk.injEq] at hx
      obtain ⟨rfl, rfl⟩ := hx
      exact ⟨rfl, .cons ⟨z, rfl, hz⟩ .nil, rfl⟩
    · rename_i hu
      simp only [Option.some.injEq] at hf
      subst hf
      obtain ⟨z, rfl, hx⟩ := DataW.trod_bool hu h
      simp only [Prod.mk.injEq] at hx
      obtain ⟨rfl, rfl⟩ := hx
      exact ⟨rfl, .cons ⟨z, rfl⟩ .nil, rfl⟩
    · rename_i fs hu
      split at hf
      · rename_i l' hl
        split at hf
        · rename_i hlen
          simp only [Option.some.injEq] at hf
          subst hf
          obtain ⟨xs, m, rfl, hx, hc, hxl, hall⟩ := DataW.trod_struct hu h
          simp only [Prod.mk.injEq] at hx
          obtain ⟨rfl, rfl⟩ := hx
          have := fields_open (n := n) (fun t l cs d p a b => flat_open n m t l cs d p a b) fs.toList 0 l' cs xs hl (by simpa using hxl) (by omega) (fun i f hi => hall i f (by simpa using hi))
          simpa [cellsD] using this
        · cases hf
      · cases hf
    · rename_i k e hu
      split at hf
      · rename_i l' hl
        split at hf
        · rename_i hlen
          simp only [Option.some.injEq] at hf
          subst hf
          obtain ⟨xs, m, rfl, hx, hc, hxl, hall⟩ := DataW.trod_array hu h
          simp only [Prod.mk.injEq] at hx
          obtain ⟨rfl, rfl⟩ := hx
          have := array_open (n := n) hlen.1 (fun cs d p b => flat_open n m e l' cs d p hl b) k 0 cs xs hxl (by rw [hc, ← hlen.2, hlen.1]; simp) (fun i hi => by simpa using hall i hi)
          simpa [cellsD] using this
        · cases hf
      · cases hf
    · cases hf

theorem fits_int {k : IntKind} {ks : List FK} {vs : List Value} (h : Fits (some k :: ks) vs) : ∃ n us, vs = .int k n :: us ∧ (Lit.int k n).wf = true ∧ Fits ks us := by
  cases h with
  | cons a b => obtain ⟨n, rfl, hn⟩ := a; exact ⟨n, _, rfl, hn, b⟩
theorem fits_bool {ks : List FK} {vs : List Value} (h : Fits (none :: ks) vs) : ∃ n us, vs = .bool n :: us ∧ Fits ks us := by
  cases h with
  | cons a b => obtain ⟨n, rfl⟩ := a; exact ⟨n, _, rfl, b⟩
theorem fits_nil {vs : List Value} (h : Fits [] vs) : vs = [] := by cases h; rfl

theorem okWide_array {n : Nat} {e t : TypeId} {r : Reach} {b0 : Nat} {v : Value} (ht : P.underlying t = some (.array n e)) (h : Value.okWide P w r b0 t v) : ∃ cs, v = .agg cs ∧ cs.size = P.cellsOf t := by
  simp only [Value.okWide, ht] at h
  obtain ⟨cs, h1, h2, _⟩ := h
  exact ⟨cs, h1, h2⟩

/-- A struct or an array by value, of flat cells. -/
theorem open_struct {fs : Array Field} {t : TypeId} {l : List FK} {r : Reach} {b0 n : Nat} {v : Value} {d : DataW H} {p : List MemPlace} (ht : P.underlying t = some (.struct fs)) (hf : flatOf P n t = some l)
    (hv : Value.okWide P w r b0 t v) (h : DataW.Trod enc P w base spare held t v d p) : ∃ cs, v = .agg cs.toArray ∧ Fits l cs ∧ p = [] := by
  obtain ⟨cs, rfl, _⟩ := okWide_struct ht hv
  obtain ⟨fuel, hx⟩ := h
  obtain ⟨_, h2, h3⟩ := flat_open _ _ _ _ _ _ _ hf hx
  exact ⟨cs.toList, by simp, by simpa [Value.cells] using h2, h3⟩
theorem open_array {k : Nat} {e t : TypeId} {l : List FK} {r : Reach} {b0 n : Nat} {v : Value} {d : DataW H} {p : List MemPlace} (ht : P.underlying t = some (.array k e)) (hf : flatOf P n t = some l)
    (hv : Value.okWide P w r b0 t v) (h : DataW.Trod enc P w base spare held t v d p) : ∃ cs, v = .agg cs.toArray ∧ Fits l cs ∧ p = [] := by
  obtain ⟨cs, rfl, _⟩ := okWide_array ht hv
  obtain ⟨fuel, hx⟩ := h
  obtain ⟨_, h2, h3⟩ := flat_open _ _ _ _ _ _ _ hf hx
  exact ⟨cs.toList, by simp, by simpa [Value.cells] using h2, h3⟩

theorem cell_add_add {w : World} {a : Addr} {x j : Nat} {v : Value} (h : w.cell? ((a.add x).add j) = some v) : w.cell? ⟨a.block, a.off + (x + j), none⟩ = some v := by
  have hsp := World.cell?_spot h
  rw [← h]
  obtain ⟨b, o, s⟩ := a
  by_cases hx : x = 0 <;> by_cases hj : j = 0 <;> simp_all [Addr.add, Nat.add_assoc]

/-- A value that is a slice whose elements are flat: 'rows' are the elements' cells. -/
def IsSlice (w : World) (v : Value) (l : List FK) (rows : List (List Value)) : Prop :=
  (v = .slice none 0 0 ∧ rows = []) ∨
  ∃ (a : Addr) (cap : Nat), v = .slice (some a) rows.length cap ∧ rows.length ≤ cap ∧ cap ≤ maxLen ∧ (rows ≠ [] → l ≠ [] → a.spot = none) ∧
    ∀ i r, rows[i]? = some r → Fits l r ∧ ∀ j, j < l.length → w.cell? ⟨a.block, a.off + (i * l.length + j), none⟩ = r[j]?

theorem open_slice_flat {t e : TypeId} {l : List FK} {r : Reach} {b0 n : Nat} {v : Value} {d : DataW H} {p : List MemPlace} (ht : P.underlying t = some (.slice e)) (hf : flatOf P n e = some l) (hl : l.length = P.cellsOf e)
    (hv : Value.okWide P w r b0 t v) (h : DataW.Trod enc P w base spare held t v d p) : ∃ rows, IsSlice w v l rows ∧ ((d = .nil ∧ rows = []) ∨ ∃ es sp, d = .slice es sp ∧ es.length = rows.length) := by
  obtain ⟨a0, len, cap, rfl⟩ := okWide_slice ht hv
  obtain ⟨fuel, hx⟩ := h
  rcases DataW.trod_slice ht hx with ⟨h0, h1⟩ | ⟨a, len', cap', elems, rest, m, _, hcs, hxx, hb, hlc, hcm, hel, hall, _, _⟩
  · simp [Value.cells] at h0
    obtain ⟨rfl, rfl, rfl⟩ := h0
    simp only [Prod.mk.injEq] at h1
    exact ⟨[], .inl ⟨rfl, rfl⟩, .inl ⟨h1.1, rfl⟩⟩
  · simp [Value.cells] at hcs
    obtain ⟨rfl, rfl, rfl⟩ := hcs
    have hrow : ∀ i, i < len → ∃ cs, w.cells? base (a.add (i * P.cellsOf e)) (P.cellsOf e) = some cs ∧ Fits l cs := by
      intro i hi
      have := hall i hi
      rw [List.getElem?_eq_getElem (by omega)] at this
      obtain ⟨cs, h1, h2⟩ := Option.bind_eq_some_iff.1 this
      obtain ⟨_, h3, _⟩ := flat_open _ _ _ _ _ _ _ hf h2
      exact ⟨cs, h1, h3⟩
    have hrow' : ∃ R : Nat → List Value, ∀ i, i < len → w.cells? base (a.add (i * P.cellsOf e)) (P.cellsOf e) = some (R i) ∧ Fits l (R i) :=
      ⟨fun i => if hi : i < len then Classical.choose (hrow i hi) else [], fun i hi => by simp only [hi, dif_pos]; exact Classical.choose_spec (hrow i hi)⟩
    obtain ⟨R, hR⟩ := hrow'
    refine ⟨(List.range len).map R, .inr ⟨a, cap, by simp, by simpa using hlc, hcm, ?_, ?_⟩, .inr ⟨elems.map (·.1), rest.map (·.1), ?_, by simp [hel]⟩⟩
    · intro hne hl0
      have hpos : 0 < len := by
        rcases Nat.eq_zero_or_pos len with h0 | h0
        · subst h0; simp at hne
        · exact h0
      have hlp : 0 < l.length := List.length_pos_iff.2 hl0
      obtain ⟨_, h2, h3⟩ := World.cells?_some (hR 0 hpos).1
      have h4 := h3 0 (by omega)
      rw [List.getElem?_eq_getElem (by omega)] at h4
      simpa [Addr.add] using World.cell?_spot h4
    · intro i r hi
      obtain ⟨hlt, rfl⟩ := List.getElem?_eq_some_iff.1 hi
      simp only [List.length_map, List.length_range] at hlt
      simp only [List.getElem_map, List.getElem_range]
      refine ⟨(hR i hlt).2, fun j hj => ?_⟩
      obtain ⟨_, h2, h3⟩ := World.cells?_some (hR i hlt).1
      have h4 := h3 j (by omega)
      rw [List.getElem?_eq_getElem (by omega)] at h4 ⊢
      rw [hl]
      exact cell_add_add h4
    · simp only [Prod.mk.injEq] at hxx; exact hxx.1

theorem trodAll_below {P : Program} (hl : laidOutB P = true) {W W' : World} (hb : Below W.heap.size W W') : ∀ {ts : List TypeId} {vs : List Value} {ds : List (DataW H)} {ps : List MemPlace},
    (∀ t ∈ ts, P.readableRec t = true ∧ t < P.types.size) → DataW.TrodAll enc P W 0 (fun _ => true) true ts vs ds ps → (∀ x ∈ ps, x.block < W.heap.size) →
    DataW.TrodAll enc P W' 0 (fun b => decide (b < W.heap.size)) true ts vs ds ps
  | [], _, _, _, _, h, _ => by
    obtain ⟨rfl, rfl, rfl⟩ := trodAll_nil h
    rfl
  | t :: ts, _, _, _, hr, h, hlt => by
    obtain ⟨v, vs1, d, ds1, a, b, rfl, rfl, rfl, h1, h2⟩ := trodAll_cons h
    exact ⟨a, b, Below.trod hl (hr t (by simp)).1 (hr t (by simp)).2 h1 hb (fun x hx => hlt x (by simp [hx])), trodAll_below hl hb (fun t' ht => hr t' (by simp [ht])) h2 (fun x hx => hlt x (by simp [hx])), rfl⟩

/-- A law's end: true is returned, and nothing that was there has turned. -/
theorem law_post {fn : Func} {s : ChangeSpec} {W W' : World} {args : Array Value} {ds : List (DataW H)} {before : List MemPlace} {tb : TypeId} (hl : laidOutB P = true) (hv : s.vars = [])
    (hfn : s.fn H (ds ++ []) = { results := [.lit (.bool true)], args := ds, vars := [] }) (hrt : fn.resultTypes = #[tb]) (htb : P.underlying tb = some .bool)
    (hr : ∀ t ∈ fn.params.toList, P.readableRec t = true ∧ t < P.types.size)
    (hW : DataW.Whole enc P fn.params.toList s.vars false W args.toList ds [] before) (hb : Below W.heap.size W W') :
    s.post enc P fn false true false false W args (.bool true) W' := by
  have hW' := hW
  obtain ⟨p, q, hA, hV, rfl, hfz, hnd⟩ := hW
  rw [hv] at hV
  obtain ⟨_, rfl⟩ := trodVars_none hV
  have hlt : ∀ x ∈ p, x.block < W.heap.size := fun x hx => hW'.lt x (by simp [hx])
  refine ⟨ds, [], p ++ [], [], p, [], hW', ?_, ?_, ?_, hb.frame _, fun h => by cases h⟩
  · rw [hfn, hrt]
    exact trodAll_mk1 (shut_bool htb _)
  · rw [hfn]
    exact trodAll_below hl hb hr hA hlt
  · rw [hfn, hv]
    rfl

/-- A listed table, opened: the variable's cells are the datum's. -/
theorem laid_cells {P : Program} {W : World} {name : String} {D : DataW Unit} {rest : List (String × DataW Unit)} {g n : Nat} {t : TypeId} {l : List FK}
    (hg : P.globalNamed name = some g) (hty : (P.globals[g]?).map (·.type) = some t) (hf : flatOf P n t = some l)
    (h : laidMet P ((name, D) :: rest) W) : ∀ i, W.cell? ⟨g, i, none⟩ = (cellsD n D)[i]? := by
  obtain ⟨ps, ⟨g', t', cs, fuel, p, q, hg', ht', hvar, hd, _, _⟩, _⟩ := h
  obtain rfl := Option.some.inj (hg.symm.trans hg')
  obtain rfl := Option.some.inj (hty.symm.trans ht')
  obtain ⟨h1, _, _⟩ := flat_open _ _ _ _ _ _ _ hf hd
  intro i
  rw [World.var?_cell hg hvar i, ← h1]
  simp
theorem laid_tail {P : Program} {x : String × DataW Unit} {r : List (String × DataW Unit)} {w : World} (h : laidMet P (x :: r) w) : laidMet P r w := by
  obtain ⟨ps, hv, hnd, hrows⟩ := h
  obtain ⟨n, d⟩ := x
  obtain ⟨g, t, cs, fuel, p, q, _, _, _, _, hq, rfl⟩ := hv
  exact ⟨q, hq, List.Nodup.sublist (List.sublist_append_right _ _) hnd, fun b off hm => hrows b off (List.mem_append_right _ hm)⟩
end
end Go.Proofs.YtjbmpdibjfcafaaDoor
